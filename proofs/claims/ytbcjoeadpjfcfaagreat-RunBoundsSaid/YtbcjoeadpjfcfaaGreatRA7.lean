/-
  Parts of the proof that the law holds whatever the input; without conditions.
-/
import Derived.Test.YtbcjoeadpjfcfaaGreatRA6
import Derived.Test.YtbcjoeadpjfcfaaGreatRA4
import Derived.Test.YtbcjoeadpjfcfaaGreatRA5
set_option linter.unusedSimpArgs false
set_option linter.unusedVariables false
namespace Go.Proofs.YtbcjoeadpjfcfaaGreat
open Abs
theorem z94 (bs dr tk up sm:Int) (p0 p1 p2 p3:Part) (sets:List (List Span)) (hs:B4 sm=true) (hS:Cs [p0,p1,p2,p3] sets) (e1:p1.at_=p0.at_) (e2:p2.at_=p0.at_) (e3:p3.at_=p0.at_) :
   PC Tryz.prog 196 [Cn ⟨bs,dr,tk,up,sm,[p0,p1,p2,p3]⟩,Ao sets] (.tup [Aj (Ba ⟨bs,dr,tk,up,sm,[p0,p1,p2,p3]⟩ sets),.bool (B9 (Ba ⟨bs,dr,tk,up,sm,[p0,p1,p2,p3]⟩ sets))]):=by
 have hg:=Ah sets;have b0:=Ai (hS.parts p0 (by simp));have b1:=Ai (hS.parts p1 (by simp));have b2:=Ai (hS.parts p2 (by simp));have b3:=Ai (hS.parts p3 (by simp));have A0:=Cx hs;obtain⟨T1,P1,A1⟩:=Al (a:=p0.at_) hS A0 (by omega) (by simp);have l1:atL [p0,p1,p2,p3] p0.at_=[p0,p1,p2,p3]:=by simp[atL,e1,e2,e3]
 rw[l1] at T1 P1;have hv:Ba ⟨bs,dr,tk,up,sm,[p0,p1,p2,p3]⟩ sets=Bc [p0,p1,p2,p3] sets ([⟨sm,sm⟩]) p0.at_:=by simp[Ba,B5,B1,e1,e2,e3]
 rw[hv];generalize ho1:Bc [p0,p1,p2,p3] sets ([⟨sm,sm⟩]) p0.at_=o1 at *;generalize ht1:togL [p0,p1,p2,p3] (nth sets p0.at_.toNat)=t1 at *;have hF:=Bp o1 (by have:=A1.2;omega);have hL:=Bu o1 (by have:=A1.2;omega);clear hS hv ho1 ht1 l1;refine A7 A9 ?_;unfold A6;(with_reducible repeat' (first|(simp(disch:=omega)only[push_cast,↓zz,seval])|refine And.intro ?_ ?_|(first|refine Ab ?_ ?_|refine Aa ?_ ?_)<;>intro hc<;>(try simp only[push_cast] at hc)|omega|intro _));refine Bb 6 ?_;(with_reducible repeat' (first|(simp(disch:=omega)only[push_cast,↓zz,seval,xx,List.mem_cons,List.not_mem_nil,or_false,false_or,not_or,not_false_eq_true,true_or,or_true,Cb,setM,e1,e2,e3])|refine And.intro ?_ ?_|(first|refine Ab ?_ ?_|refine Aa ?_ ?_)<;>intro hc<;>(try simp only[push_cast] at hc)|refine Am ?_|refine Cm [1,5] ?_|omega|intro _));refine Bo 6 (fun env=>[Bm 1 (env 6)]) [(1,Ao sets),(6,.map 0 1),(10,Aj [⟨sm,sm⟩]),(53,.lst 1 [.int .i64 p0.at_]),(54,.int .i64 1),(55,.int .i64 0)] [⟨0,1,true,[.int .i64 p0.at_,Bg [p0,p1,p2,p3]]⟩] ?_ ?_
 · (with_reducible repeat' (first|(simp(disch:=omega)only[push_cast,↓zz,seval,e1,e2,e3])|refine And.intro ?_ ?_|(first|refine Ab ?_ ?_|refine Aa ?_ ?_)<;>intro hc<;>(try simp only[push_cast] at hc)|omega|intro _))
   all_goals (simp only[Cj,e1,e2,e3];done)
 (with_reducible repeat' (first|(simp(disch:=omega)only[push_cast,↓zz,seval,Cb,B9,hg,e1,e2,e3])|refine And.intro ?_ ?_|(first|refine Ab ?_ ?_|refine Aa ?_ ?_)<;>intro hc<;>(try simp only[push_cast] at hc)|refine Am ?_|refine eQ T1 ?_|refine eQ P1 ?_|refine eK T1 ?_|refine eK P1 ?_|refine eK hF ?_|refine eK hL ?_|omega|intro _))
 all_goals ((try simp only[*,decide_true,decide_false,Bool.true_and,Bool.false_and]);(repeat' (first|(simp(disch:=omega)only[push_cast,↓zz,seval,B8])|omega|(with_reducible refine And.intro ?_ ?_))))
theorem z95 (bs dr tk up sm:Int) (p0 p1 p2 p3:Part) (sets:List (List Span)) (hs:B4 sm=true) (hS:Cs [p0,p1,p2,p3] sets) (e1:p1.at_=p0.at_) (e2:p2.at_=p0.at_) (n03:¬p0.at_=p3.at_) :
   PC Tryz.prog 196 [Cn ⟨bs,dr,tk,up,sm,[p0,p1,p2,p3]⟩,Ao sets] (.tup [Aj (Ba ⟨bs,dr,tk,up,sm,[p0,p1,p2,p3]⟩ sets),.bool (B9 (Ba ⟨bs,dr,tk,up,sm,[p0,p1,p2,p3]⟩ sets))]):=by
 have hg:=Ah sets;have b0:=Ai (hS.parts p0 (by simp));have b1:=Ai (hS.parts p1 (by simp));have b2:=Ai (hS.parts p2 (by simp));have b3:=Ai (hS.parts p3 (by simp));have A0:=Cx hs;obtain⟨T1,P1,A1⟩:=Al (a:=p0.at_) hS A0 (by omega) (by simp);have l1:atL [p0,p1,p2,p3] p0.at_=[p0,p1,p2]:=by simp[atL,e1,e2,n03,Ne.symm (show p0.at_≠p3.at_ from n03)]
 rw[l1] at T1 P1;obtain⟨T2,P2,A2⟩:=Al (a:=p3.at_) hS A1 (by omega) (by simp);have l2:atL [p0,p1,p2,p3] p3.at_=[p3]:=by simp[atL,e1,e2,n03,Ne.symm (show p0.at_≠p3.at_ from n03)]
 rw[l2] at T2 P2;have hv:Ba ⟨bs,dr,tk,up,sm,[p0,p1,p2,p3]⟩ sets=Bc [p0,p1,p2,p3] sets (Bc [p0,p1,p2,p3] sets ([⟨sm,sm⟩]) p0.at_) p3.at_:=by simp[Ba,B5,B1,e1,e2,n03,Ne.symm (show p0.at_≠p3.at_ from n03)]
 rw[hv];generalize ho1:Bc [p0,p1,p2,p3] sets ([⟨sm,sm⟩]) p0.at_=o1 at *;generalize ht1:togL [p0,p1,p2] (nth sets p0.at_.toNat)=t1 at *;generalize ho2:Bc [p0,p1,p2,p3] sets (o1) p3.at_=o2 at *;generalize ht2:togL [p3] (nth sets p3.at_.toNat)=t2 at *;have hF:=Bp o2 (by have:=A2.2;omega);have hL:=Bu o2 (by have:=A2.2;omega);clear hS hv ho1 ht1 l1 ho2 ht2 l2;refine A7 A9 ?_;unfold A6;(with_reducible repeat' (first|(simp(disch:=omega)only[push_cast,↓zz,seval])|refine And.intro ?_ ?_|(first|refine Ab ?_ ?_|refine Aa ?_ ?_)<;>intro hc<;>(try simp only[push_cast] at hc)|omega|intro _));refine Bb 6 ?_;(with_reducible repeat' (first|(simp(disch:=omega)only[push_cast,↓zz,seval,xx,List.mem_cons,List.not_mem_nil,or_false,false_or,not_or,not_false_eq_true,true_or,or_true,Cb,setM,e1,e2,n03])|refine And.intro ?_ ?_|(first|refine Ab ?_ ?_|refine Aa ?_ ?_)<;>intro hc<;>(try simp only[push_cast] at hc)|refine Am ?_|refine Cm [1,5] ?_|omega|intro _));refine Bo 6 (fun env=>[Bm 1 (env 6)]) [(1,Ao sets),(6,.map 0 1),(10,Aj [⟨sm,sm⟩]),(53,.lst 1 [.int .i64 p0.at_,.int .i64 p3.at_]),(54,.int .i64 2),(55,.int .i64 0)] [⟨0,1,true,[.int .i64 p0.at_,Bg [p0,p1,p2],.int .i64 p3.at_,Bg [p3]]⟩] ?_ ?_
 · (with_reducible repeat' (first|(simp(disch:=omega)only[push_cast,↓zz,seval,e1,e2,n03])|refine And.intro ?_ ?_|(first|refine Ab ?_ ?_|refine Aa ?_ ?_)<;>intro hc<;>(try simp only[push_cast] at hc)|omega|intro _))
   all_goals (simp only[Cj,e1,e2,n03];done)
 (with_reducible repeat' (first|(simp(disch:=omega)only[push_cast,↓zz,seval,Cb,B9,hg,e1,e2,n03])|refine And.intro ?_ ?_|(first|refine Ab ?_ ?_|refine Aa ?_ ?_)<;>intro hc<;>(try simp only[push_cast] at hc)|refine Am ?_|refine eQ T1 ?_|refine eQ P1 ?_|refine eK T1 ?_|refine eK P1 ?_|refine eQ T2 ?_|refine eQ P2 ?_|refine eK T2 ?_|refine eK P2 ?_|refine eK hF ?_|refine eK hL ?_|omega|intro _))
 all_goals ((try simp only[*,decide_true,decide_false,Bool.true_and,Bool.false_and]);(repeat' (first|(simp(disch:=omega)only[push_cast,↓zz,seval,B8])|omega|(with_reducible refine And.intro ?_ ?_))))
theorem z96 (bs dr tk up sm:Int) (p0 p1 p2 p3:Part) (sets:List (List Span)) (hs:B4 sm=true) (hS:Cs [p0,p1,p2,p3] sets) (e1:p1.at_=p0.at_) (e3:p3.at_=p0.at_) (n02:¬p0.at_=p2.at_) :
   PC Tryz.prog 196 [Cn ⟨bs,dr,tk,up,sm,[p0,p1,p2,p3]⟩,Ao sets] (.tup [Aj (Ba ⟨bs,dr,tk,up,sm,[p0,p1,p2,p3]⟩ sets),.bool (B9 (Ba ⟨bs,dr,tk,up,sm,[p0,p1,p2,p3]⟩ sets))]):=by
 have hg:=Ah sets;have b0:=Ai (hS.parts p0 (by simp));have b1:=Ai (hS.parts p1 (by simp));have b2:=Ai (hS.parts p2 (by simp));have b3:=Ai (hS.parts p3 (by simp));have A0:=Cx hs;obtain⟨T1,P1,A1⟩:=Al (a:=p0.at_) hS A0 (by omega) (by simp);have l1:atL [p0,p1,p2,p3] p0.at_=[p0,p1,p3]:=by simp[atL,e1,e3,n02,Ne.symm (show p0.at_≠p2.at_ from n02)]
 rw[l1] at T1 P1;obtain⟨T2,P2,A2⟩:=Al (a:=p2.at_) hS A1 (by omega) (by simp);have l2:atL [p0,p1,p2,p3] p2.at_=[p2]:=by simp[atL,e1,e3,n02,Ne.symm (show p0.at_≠p2.at_ from n02)]
 rw[l2] at T2 P2;have hv:Ba ⟨bs,dr,tk,up,sm,[p0,p1,p2,p3]⟩ sets=Bc [p0,p1,p2,p3] sets (Bc [p0,p1,p2,p3] sets ([⟨sm,sm⟩]) p0.at_) p2.at_:=by simp[Ba,B5,B1,e1,e3,n02,Ne.symm (show p0.at_≠p2.at_ from n02)]
 rw[hv];generalize ho1:Bc [p0,p1,p2,p3] sets ([⟨sm,sm⟩]) p0.at_=o1 at *;generalize ht1:togL [p0,p1,p3] (nth sets p0.at_.toNat)=t1 at *;generalize ho2:Bc [p0,p1,p2,p3] sets (o1) p2.at_=o2 at *;generalize ht2:togL [p2] (nth sets p2.at_.toNat)=t2 at *;have hF:=Bp o2 (by have:=A2.2;omega);have hL:=Bu o2 (by have:=A2.2;omega);clear hS hv ho1 ht1 l1 ho2 ht2 l2;refine A7 A9 ?_;unfold A6;(with_reducible repeat' (first|(simp(disch:=omega)only[push_cast,↓zz,seval])|refine And.intro ?_ ?_|(first|refine Ab ?_ ?_|refine Aa ?_ ?_)<;>intro hc<;>(try simp only[push_cast] at hc)|omega|intro _));refine Bb 6 ?_;(with_reducible repeat' (first|(simp(disch:=omega)only[push_cast,↓zz,seval,xx,List.mem_cons,List.not_mem_nil,or_false,false_or,not_or,not_false_eq_true,true_or,or_true,Cb,setM,e1,e3,n02])|refine And.intro ?_ ?_|(first|refine Ab ?_ ?_|refine Aa ?_ ?_)<;>intro hc<;>(try simp only[push_cast] at hc)|refine Am ?_|refine Cm [1,5] ?_|omega|intro _));refine Bo 6 (fun env=>[Bm 1 (env 6)]) [(1,Ao sets),(6,.map 0 1),(10,Aj [⟨sm,sm⟩]),(53,.lst 1 [.int .i64 p0.at_,.int .i64 p2.at_]),(54,.int .i64 2),(55,.int .i64 0)] [⟨0,1,true,[.int .i64 p0.at_,Bg [p0,p1,p3],.int .i64 p2.at_,Bg [p2]]⟩] ?_ ?_
 · (with_reducible repeat' (first|(simp(disch:=omega)only[push_cast,↓zz,seval,e1,e3,n02])|refine And.intro ?_ ?_|(first|refine Ab ?_ ?_|refine Aa ?_ ?_)<;>intro hc<;>(try simp only[push_cast] at hc)|omega|intro _))
   all_goals (simp only[Cj,e1,e3,n02];done)
 (with_reducible repeat' (first|(simp(disch:=omega)only[push_cast,↓zz,seval,Cb,B9,hg,e1,e3,n02])|refine And.intro ?_ ?_|(first|refine Ab ?_ ?_|refine Aa ?_ ?_)<;>intro hc<;>(try simp only[push_cast] at hc)|refine Am ?_|refine eQ T1 ?_|refine eQ P1 ?_|refine eK T1 ?_|refine eK P1 ?_|refine eQ T2 ?_|refine eQ P2 ?_|refine eK T2 ?_|refine eK P2 ?_|refine eK hF ?_|refine eK hL ?_|omega|intro _))
 all_goals ((try simp only[*,decide_true,decide_false,Bool.true_and,Bool.false_and]);(repeat' (first|(simp(disch:=omega)only[push_cast,↓zz,seval,B8])|omega|(with_reducible refine And.intro ?_ ?_))))
theorem z97 (bs dr tk up sm:Int) (p0 p1 p2 p3:Part) (sets:List (List Span)) (hs:B4 sm=true) (hS:Cs [p0,p1,p2,p3] sets) (e1:p1.at_=p0.at_) (e3:p3.at_=p2.at_) (n02:¬p0.at_=p2.at_) :
   PC Tryz.prog 196 [Cn ⟨bs,dr,tk,up,sm,[p0,p1,p2,p3]⟩,Ao sets] (.tup [Aj (Ba ⟨bs,dr,tk,up,sm,[p0,p1,p2,p3]⟩ sets),.bool (B9 (Ba ⟨bs,dr,tk,up,sm,[p0,p1,p2,p3]⟩ sets))]):=by
 have hg:=Ah sets;have b0:=Ai (hS.parts p0 (by simp));have b1:=Ai (hS.parts p1 (by simp));have b2:=Ai (hS.parts p2 (by simp));have b3:=Ai (hS.parts p3 (by simp));have A0:=Cx hs;obtain⟨T1,P1,A1⟩:=Al (a:=p0.at_) hS A0 (by omega) (by simp);have l1:atL [p0,p1,p2,p3] p0.at_=[p0,p1]:=by simp[atL,e1,e3,n02,Ne.symm (show p0.at_≠p2.at_ from n02)]
 rw[l1] at T1 P1;obtain⟨T2,P2,A2⟩:=Al (a:=p2.at_) hS A1 (by omega) (by simp);have l2:atL [p0,p1,p2,p3] p2.at_=[p2,p3]:=by simp[atL,e1,e3,n02,Ne.symm (show p0.at_≠p2.at_ from n02)]
 rw[l2] at T2 P2;have hv:Ba ⟨bs,dr,tk,up,sm,[p0,p1,p2,p3]⟩ sets=Bc [p0,p1,p2,p3] sets (Bc [p0,p1,p2,p3] sets ([⟨sm,sm⟩]) p0.at_) p2.at_:=by simp[Ba,B5,B1,e1,e3,n02,Ne.symm (show p0.at_≠p2.at_ from n02)]
 rw[hv];generalize ho1:Bc [p0,p1,p2,p3] sets ([⟨sm,sm⟩]) p0.at_=o1 at *;generalize ht1:togL [p0,p1] (nth sets p0.at_.toNat)=t1 at *;generalize ho2:Bc [p0,p1,p2,p3] sets (o1) p2.at_=o2 at *;generalize ht2:togL [p2,p3] (nth sets p2.at_.toNat)=t2 at *;have hF:=Bp o2 (by have:=A2.2;omega);have hL:=Bu o2 (by have:=A2.2;omega);clear hS hv ho1 ht1 l1 ho2 ht2 l2;refine A7 A9 ?_;unfold A6;(with_reducible repeat' (first|(simp(disch:=omega)only[push_cast,↓zz,seval])|refine And.intro ?_ ?_|(first|refine Ab ?_ ?_|refine Aa ?_ ?_)<;>intro hc<;>(try simp only[push_cast] at hc)|omega|intro _));refine Bb 6 ?_;(with_reducible repeat' (first|(simp(disch:=omega)only[push_cast,↓zz,seval,xx,List.mem_cons,List.not_mem_nil,or_false,false_or,not_or,not_false_eq_true,true_or,or_true,Cb,setM,e1,e3,n02])|refine And.intro ?_ ?_|(first|refine Ab ?_ ?_|refine Aa ?_ ?_)<;>intro hc<;>(try simp only[push_cast] at hc)|refine Am ?_|refine Cm [1,5,9] ?_|omega|intro _));refine Bo 6 (fun env=>[Bm 1 (env 6)]) [(1,Ao sets),(6,.map 0 1),(10,Aj [⟨sm,sm⟩]),(53,.lst 1 [.int .i64 p0.at_,.int .i64 p2.at_]),(54,.int .i64 2),(55,.int .i64 0)] [⟨0,1,true,[.int .i64 p0.at_,Bg [p0,p1],.int .i64 p2.at_,Bg [p2,p3]]⟩] ?_ ?_
 · (with_reducible repeat' (first|(simp(disch:=omega)only[push_cast,↓zz,seval,e1,e3,n02])|refine And.intro ?_ ?_|(first|refine Ab ?_ ?_|refine Aa ?_ ?_)<;>intro hc<;>(try simp only[push_cast] at hc)|omega|intro _))
   all_goals (simp only[Cj,e1,e3,n02];done)
 (with_reducible repeat' (first|(simp(disch:=omega)only[push_cast,↓zz,seval,Cb,B9,hg,e1,e3,n02])|refine And.intro ?_ ?_|(first|refine Ab ?_ ?_|refine Aa ?_ ?_)<;>intro hc<;>(try simp only[push_cast] at hc)|refine Am ?_|refine eQ T1 ?_|refine eQ P1 ?_|refine eK T1 ?_|refine eK P1 ?_|refine eQ T2 ?_|refine eQ P2 ?_|refine eK T2 ?_|refine eK P2 ?_|refine eK hF ?_|refine eK hL ?_|omega|intro _))
 all_goals ((try simp only[*,decide_true,decide_false,Bool.true_and,Bool.false_and]);(repeat' (first|(simp(disch:=omega)only[push_cast,↓zz,seval,B8])|omega|(with_reducible refine And.intro ?_ ?_))))
theorem z98 (bs dr tk up sm:Int) (p0 p1 p2 p3:Part) (sets:List (List Span)) (hs:B4 sm=true) (hS:Cs [p0,p1,p2,p3] sets) (e1:p1.at_=p0.at_) (n02:¬p0.at_=p2.at_) (n03:¬p0.at_=p3.at_) (n23:¬p2.at_=p3.at_) :
   PC Tryz.prog 196 [Cn ⟨bs,dr,tk,up,sm,[p0,p1,p2,p3]⟩,Ao sets] (.tup [Aj (Ba ⟨bs,dr,tk,up,sm,[p0,p1,p2,p3]⟩ sets),.bool (B9 (Ba ⟨bs,dr,tk,up,sm,[p0,p1,p2,p3]⟩ sets))]):=by
 have hg:=Ah sets;have b0:=Ai (hS.parts p0 (by simp));have b1:=Ai (hS.parts p1 (by simp));have b2:=Ai (hS.parts p2 (by simp));have b3:=Ai (hS.parts p3 (by simp));have A0:=Cx hs;obtain⟨T1,P1,A1⟩:=Al (a:=p0.at_) hS A0 (by omega) (by simp);have l1:atL [p0,p1,p2,p3] p0.at_=[p0,p1]:=by simp[atL,e1,n02,n03,n23,Ne.symm (show p0.at_≠p2.at_ from n02),Ne.symm (show p0.at_≠p3.at_ from n03),Ne.symm (show p2.at_≠p3.at_ from n23)]
 rw[l1] at T1 P1;obtain⟨T2,P2,A2⟩:=Al (a:=p2.at_) hS A1 (by omega) (by simp);have l2:atL [p0,p1,p2,p3] p2.at_=[p2]:=by simp[atL,e1,n02,n03,n23,Ne.symm (show p0.at_≠p2.at_ from n02),Ne.symm (show p0.at_≠p3.at_ from n03),Ne.symm (show p2.at_≠p3.at_ from n23)]
 rw[l2] at T2 P2;obtain⟨T3,P3,A3⟩:=Al (a:=p3.at_) hS A2 (by omega) (by simp);have l3:atL [p0,p1,p2,p3] p3.at_=[p3]:=by simp[atL,e1,n02,n03,n23,Ne.symm (show p0.at_≠p2.at_ from n02),Ne.symm (show p0.at_≠p3.at_ from n03),Ne.symm (show p2.at_≠p3.at_ from n23)]
 rw[l3] at T3 P3;have hv:Ba ⟨bs,dr,tk,up,sm,[p0,p1,p2,p3]⟩ sets=Bc [p0,p1,p2,p3] sets (Bc [p0,p1,p2,p3] sets (Bc [p0,p1,p2,p3] sets ([⟨sm,sm⟩]) p0.at_) p2.at_) p3.at_:=by simp[Ba,B5,B1,e1,n02,n03,n23,Ne.symm (show p0.at_≠p2.at_ from n02),Ne.symm (show p0.at_≠p3.at_ from n03),Ne.symm (show p2.at_≠p3.at_ from n23)]
 rw[hv];generalize ho1:Bc [p0,p1,p2,p3] sets ([⟨sm,sm⟩]) p0.at_=o1 at *;generalize ht1:togL [p0,p1] (nth sets p0.at_.toNat)=t1 at *;generalize ho2:Bc [p0,p1,p2,p3] sets (o1) p2.at_=o2 at *;generalize ht2:togL [p2] (nth sets p2.at_.toNat)=t2 at *;generalize ho3:Bc [p0,p1,p2,p3] sets (o2) p3.at_=o3 at *;generalize ht3:togL [p3] (nth sets p3.at_.toNat)=t3 at *;have hF:=Bp o3 (by have:=A3.2;omega);have hL:=Bu o3 (by have:=A3.2;omega);clear hS hv ho1 ht1 l1 ho2 ht2 l2 ho3 ht3 l3;refine A7 A9 ?_;unfold A6;(with_reducible repeat' (first|(simp(disch:=omega)only[push_cast,↓zz,seval])|refine And.intro ?_ ?_|(first|refine Ab ?_ ?_|refine Aa ?_ ?_)<;>intro hc<;>(try simp only[push_cast] at hc)|omega|intro _));refine Bb 6 ?_;(with_reducible repeat' (first|(simp(disch:=omega)only[push_cast,↓zz,seval,xx,List.mem_cons,List.not_mem_nil,or_false,false_or,not_or,not_false_eq_true,true_or,or_true,Cb,setM,e1,n02,n03,n23])|refine And.intro ?_ ?_|(first|refine Ab ?_ ?_|refine Aa ?_ ?_)<;>intro hc<;>(try simp only[push_cast] at hc)|refine Am ?_|refine Cm [1,5] ?_|omega|intro _));refine Bo 6 (fun env=>[Bm 1 (env 6)]) [(1,Ao sets),(6,.map 0 1),(10,Aj [⟨sm,sm⟩]),(53,.lst 1 [.int .i64 p0.at_,.int .i64 p2.at_,.int .i64 p3.at_]),(54,.int .i64 3),(55,.int .i64 0)] [⟨0,1,true,[.int .i64 p0.at_,Bg [p0,p1],.int .i64 p2.at_,Bg [p2],.int .i64 p3.at_,Bg [p3]]⟩] ?_ ?_
 · (with_reducible repeat' (first|(simp(disch:=omega)only[push_cast,↓zz,seval,e1,n02,n03,n23])|refine And.intro ?_ ?_|(first|refine Ab ?_ ?_|refine Aa ?_ ?_)<;>intro hc<;>(try simp only[push_cast] at hc)|omega|intro _))
   all_goals (simp only[Cj,e1,n02,n03,n23];done)
 (with_reducible repeat' (first|(simp(disch:=omega)only[push_cast,↓zz,seval,Cb,B9,hg,e1,n02,n03,n23])|refine And.intro ?_ ?_|(first|refine Ab ?_ ?_|refine Aa ?_ ?_)<;>intro hc<;>(try simp only[push_cast] at hc)|refine Am ?_|refine eQ T1 ?_|refine eQ P1 ?_|refine eK T1 ?_|refine eK P1 ?_|refine eQ T2 ?_|refine eQ P2 ?_|refine eK T2 ?_|refine eK P2 ?_|refine eQ T3 ?_|refine eQ P3 ?_|refine eK T3 ?_|refine eK P3 ?_|refine eK hF ?_|refine eK hL ?_|omega|intro _))
 all_goals ((try simp only[*,decide_true,decide_false,Bool.true_and,Bool.false_and]);(repeat' (first|(simp(disch:=omega)only[push_cast,↓zz,seval,B8])|omega|(with_reducible refine And.intro ?_ ?_))))
theorem z99 (bs dr tk up sm:Int) (p0 p1 p2 p3:Part) (sets:List (List Span)) (hs:B4 sm=true) (hS:Cs [p0,p1,p2,p3] sets) (e2:p2.at_=p0.at_) (e3:p3.at_=p0.at_) (n01:¬p0.at_=p1.at_) :
   PC Tryz.prog 196 [Cn ⟨bs,dr,tk,up,sm,[p0,p1,p2,p3]⟩,Ao sets] (.tup [Aj (Ba ⟨bs,dr,tk,up,sm,[p0,p1,p2,p3]⟩ sets),.bool (B9 (Ba ⟨bs,dr,tk,up,sm,[p0,p1,p2,p3]⟩ sets))]):=by
 have hg:=Ah sets;have b0:=Ai (hS.parts p0 (by simp));have b1:=Ai (hS.parts p1 (by simp));have b2:=Ai (hS.parts p2 (by simp));have b3:=Ai (hS.parts p3 (by simp));have A0:=Cx hs;obtain⟨T1,P1,A1⟩:=Al (a:=p0.at_) hS A0 (by omega) (by simp);have l1:atL [p0,p1,p2,p3] p0.at_=[p0,p2,p3]:=by simp[atL,e2,e3,n01,Ne.symm (show p0.at_≠p1.at_ from n01)]
 rw[l1] at T1 P1;obtain⟨T2,P2,A2⟩:=Al (a:=p1.at_) hS A1 (by omega) (by simp);have l2:atL [p0,p1,p2,p3] p1.at_=[p1]:=by simp[atL,e2,e3,n01,Ne.symm (show p0.at_≠p1.at_ from n01)]
 rw[l2] at T2 P2;have hv:Ba ⟨bs,dr,tk,up,sm,[p0,p1,p2,p3]⟩ sets=Bc [p0,p1,p2,p3] sets (Bc [p0,p1,p2,p3] sets ([⟨sm,sm⟩]) p0.at_) p1.at_:=by simp[Ba,B5,B1,e2,e3,n01,Ne.symm (show p0.at_≠p1.at_ from n01)]
 rw[hv];generalize ho1:Bc [p0,p1,p2,p3] sets ([⟨sm,sm⟩]) p0.at_=o1 at *;generalize ht1:togL [p0,p2,p3] (nth sets p0.at_.toNat)=t1 at *;generalize ho2:Bc [p0,p1,p2,p3] sets (o1) p1.at_=o2 at *;generalize ht2:togL [p1] (nth sets p1.at_.toNat)=t2 at *;have hF:=Bp o2 (by have:=A2.2;omega);have hL:=Bu o2 (by have:=A2.2;omega);clear hS hv ho1 ht1 l1 ho2 ht2 l2;refine A7 A9 ?_;unfold A6;(with_reducible repeat' (first|(simp(disch:=omega)only[push_cast,↓zz,seval])|refine And.intro ?_ ?_|(first|refine Ab ?_ ?_|refine Aa ?_ ?_)<;>intro hc<;>(try simp only[push_cast] at hc)|omega|intro _));refine Bb 6 ?_;(with_reducible repeat' (first|(simp(disch:=omega)only[push_cast,↓zz,seval,xx,List.mem_cons,List.not_mem_nil,or_false,false_or,not_or,not_false_eq_true,true_or,or_true,Cb,setM,e2,e3,n01])|refine And.intro ?_ ?_|(first|refine Ab ?_ ?_|refine Aa ?_ ?_)<;>intro hc<;>(try simp only[push_cast] at hc)|refine Am ?_|refine Cm [1,5] ?_|omega|intro _));refine Bo 6 (fun env=>[Bm 1 (env 6)]) [(1,Ao sets),(6,.map 0 1),(10,Aj [⟨sm,sm⟩]),(53,.lst 1 [.int .i64 p0.at_,.int .i64 p1.at_]),(54,.int .i64 2),(55,.int .i64 0)] [⟨0,1,true,[.int .i64 p0.at_,Bg [p0,p2,p3],.int .i64 p1.at_,Bg [p1]]⟩] ?_ ?_
 · (with_reducible repeat' (first|(simp(disch:=omega)only[push_cast,↓zz,seval,e2,e3,n01])|refine And.intro ?_ ?_|(first|refine Ab ?_ ?_|refine Aa ?_ ?_)<;>intro hc<;>(try simp only[push_cast] at hc)|omega|intro _))
   all_goals (simp only[Cj,e2,e3,n01];done)
 (with_reducible repeat' (first|(simp(disch:=omega)only[push_cast,↓zz,seval,Cb,B9,hg,e2,e3,n01])|refine And.intro ?_ ?_|(first|refine Ab ?_ ?_|refine Aa ?_ ?_)<;>intro hc<;>(try simp only[push_cast] at hc)|refine Am ?_|refine eQ T1 ?_|refine eQ P1 ?_|refine eK T1 ?_|refine eK P1 ?_|refine eQ T2 ?_|refine eQ P2 ?_|refine eK T2 ?_|refine eK P2 ?_|refine eK hF ?_|refine eK hL ?_|omega|intro _))
 all_goals ((try simp only[*,decide_true,decide_false,Bool.true_and,Bool.false_and]);(repeat' (first|(simp(disch:=omega)only[push_cast,↓zz,seval,B8])|omega|(with_reducible refine And.intro ?_ ?_))))
theorem z9a (bs dr tk up sm:Int) (p0 p1 p2 p3:Part) (sets:List (List Span)) (hs:B4 sm=true) (hS:Cs [p0,p1,p2,p3] sets) (e2:p2.at_=p0.at_) (e3:p3.at_=p1.at_) (n01:¬p0.at_=p1.at_) :
   PC Tryz.prog 196 [Cn ⟨bs,dr,tk,up,sm,[p0,p1,p2,p3]⟩,Ao sets] (.tup [Aj (Ba ⟨bs,dr,tk,up,sm,[p0,p1,p2,p3]⟩ sets),.bool (B9 (Ba ⟨bs,dr,tk,up,sm,[p0,p1,p2,p3]⟩ sets))]):=by
 have hg:=Ah sets;have b0:=Ai (hS.parts p0 (by simp));have b1:=Ai (hS.parts p1 (by simp));have b2:=Ai (hS.parts p2 (by simp));have b3:=Ai (hS.parts p3 (by simp));have A0:=Cx hs;obtain⟨T1,P1,A1⟩:=Al (a:=p0.at_) hS A0 (by omega) (by simp);have l1:atL [p0,p1,p2,p3] p0.at_=[p0,p2]:=by simp[atL,e2,e3,n01,Ne.symm (show p0.at_≠p1.at_ from n01)]
 rw[l1] at T1 P1;obtain⟨T2,P2,A2⟩:=Al (a:=p1.at_) hS A1 (by omega) (by simp);have l2:atL [p0,p1,p2,p3] p1.at_=[p1,p3]:=by simp[atL,e2,e3,n01,Ne.symm (show p0.at_≠p1.at_ from n01)]
 rw[l2] at T2 P2;have hv:Ba ⟨bs,dr,tk,up,sm,[p0,p1,p2,p3]⟩ sets=Bc [p0,p1,p2,p3] sets (Bc [p0,p1,p2,p3] sets ([⟨sm,sm⟩]) p0.at_) p1.at_:=by simp[Ba,B5,B1,e2,e3,n01,Ne.symm (show p0.at_≠p1.at_ from n01)]
 rw[hv];generalize ho1:Bc [p0,p1,p2,p3] sets ([⟨sm,sm⟩]) p0.at_=o1 at *;generalize ht1:togL [p0,p2] (nth sets p0.at_.toNat)=t1 at *;generalize ho2:Bc [p0,p1,p2,p3] sets (o1) p1.at_=o2 at *;generalize ht2:togL [p1,p3] (nth sets p1.at_.toNat)=t2 at *;have hF:=Bp o2 (by have:=A2.2;omega);have hL:=Bu o2 (by have:=A2.2;omega);clear hS hv ho1 ht1 l1 ho2 ht2 l2;refine A7 A9 ?_;unfold A6;(with_reducible repeat' (first|(simp(disch:=omega)only[push_cast,↓zz,seval])|refine And.intro ?_ ?_|(first|refine Ab ?_ ?_|refine Aa ?_ ?_)<;>intro hc<;>(try simp only[push_cast] at hc)|omega|intro _));refine Bb 6 ?_;(with_reducible repeat' (first|(simp(disch:=omega)only[push_cast,↓zz,seval,xx,List.mem_cons,List.not_mem_nil,or_false,false_or,not_or,not_false_eq_true,true_or,or_true,Cb,setM,e2,e3,n01])|refine And.intro ?_ ?_|(first|refine Ab ?_ ?_|refine Aa ?_ ?_)<;>intro hc<;>(try simp only[push_cast] at hc)|refine Am ?_|refine Cm [1,5,8] ?_|omega|intro _));refine Bo 6 (fun env=>[Bm 1 (env 6)]) [(1,Ao sets),(6,.map 0 1),(10,Aj [⟨sm,sm⟩]),(53,.lst 1 [.int .i64 p0.at_,.int .i64 p1.at_]),(54,.int .i64 2),(55,.int .i64 0)] [⟨0,1,true,[.int .i64 p0.at_,Bg [p0,p2],.int .i64 p1.at_,Bg [p1,p3]]⟩] ?_ ?_
 · (with_reducible repeat' (first|(simp(disch:=omega)only[push_cast,↓zz,seval,e2,e3,n01])|refine And.intro ?_ ?_|(first|refine Ab ?_ ?_|refine Aa ?_ ?_)<;>intro hc<;>(try simp only[push_cast] at hc)|omega|intro _))
   all_goals (simp only[Cj,e2,e3,n01];done)
 (with_reducible repeat' (first|(simp(disch:=omega)only[push_cast,↓zz,seval,Cb,B9,hg,e2,e3,n01])|refine And.intro ?_ ?_|(first|refine Ab ?_ ?_|refine Aa ?_ ?_)<;>intro hc<;>(try simp only[push_cast] at hc)|refine Am ?_|refine eQ T1 ?_|refine eQ P1 ?_|refine eK T1 ?_|refine eK P1 ?_|refine eQ T2 ?_|refine eQ P2 ?_|refine eK T2 ?_|refine eK P2 ?_|refine eK hF ?_|refine eK hL ?_|omega|intro _))
 all_goals ((try simp only[*,decide_true,decide_false,Bool.true_and,Bool.false_and]);(repeat' (first|(simp(disch:=omega)only[push_cast,↓zz,seval,B8])|omega|(with_reducible refine And.intro ?_ ?_))))
theorem z9b (bs dr tk up sm:Int) (p0 p1 p2 p3:Part) (sets:List (List Span)) (hs:B4 sm=true) (hS:Cs [p0,p1,p2,p3] sets) (e2:p2.at_=p0.at_) (n01:¬p0.at_=p1.at_) (n03:¬p0.at_=p3.at_) (n13:¬p1.at_=p3.at_) :
   PC Tryz.prog 196 [Cn ⟨bs,dr,tk,up,sm,[p0,p1,p2,p3]⟩,Ao sets] (.tup [Aj (Ba ⟨bs,dr,tk,up,sm,[p0,p1,p2,p3]⟩ sets),.bool (B9 (Ba ⟨bs,dr,tk,up,sm,[p0,p1,p2,p3]⟩ sets))]):=by
 have hg:=Ah sets;have b0:=Ai (hS.parts p0 (by simp));have b1:=Ai (hS.parts p1 (by simp));have b2:=Ai (hS.parts p2 (by simp));have b3:=Ai (hS.parts p3 (by simp));have A0:=Cx hs;obtain⟨T1,P1,A1⟩:=Al (a:=p0.at_) hS A0 (by omega) (by simp);have l1:atL [p0,p1,p2,p3] p0.at_=[p0,p2]:=by simp[atL,e2,n01,n03,n13,Ne.symm (show p0.at_≠p1.at_ from n01),Ne.symm (show p0.at_≠p3.at_ from n03),Ne.symm (show p1.at_≠p3.at_ from n13)]
 rw[l1] at T1 P1;obtain⟨T2,P2,A2⟩:=Al (a:=p1.at_) hS A1 (by omega) (by simp);have l2:atL [p0,p1,p2,p3] p1.at_=[p1]:=by simp[atL,e2,n01,n03,n13,Ne.symm (show p0.at_≠p1.at_ from n01),Ne.symm (show p0.at_≠p3.at_ from n03),Ne.symm (show p1.at_≠p3.at_ from n13)]
 rw[l2] at T2 P2;obtain⟨T3,P3,A3⟩:=Al (a:=p3.at_) hS A2 (by omega) (by simp);have l3:atL [p0,p1,p2,p3] p3.at_=[p3]:=by simp[atL,e2,n01,n03,n13,Ne.symm (show p0.at_≠p1.at_ from n01),Ne.symm (show p0.at_≠p3.at_ from n03),Ne.symm (show p1.at_≠p3.at_ from n13)]
 rw[l3] at T3 P3;have hv:Ba ⟨bs,dr,tk,up,sm,[p0,p1,p2,p3]⟩ sets=Bc [p0,p1,p2,p3] sets (Bc [p0,p1,p2,p3] sets (Bc [p0,p1,p2,p3] sets ([⟨sm,sm⟩]) p0.at_) p1.at_) p3.at_:=by simp[Ba,B5,B1,e2,n01,n03,n13,Ne.symm (show p0.at_≠p1.at_ from n01),Ne.symm (show p0.at_≠p3.at_ from n03),Ne.symm (show p1.at_≠p3.at_ from n13)]
 rw[hv];generalize ho1:Bc [p0,p1,p2,p3] sets ([⟨sm,sm⟩]) p0.at_=o1 at *;generalize ht1:togL [p0,p2] (nth sets p0.at_.toNat)=t1 at *;generalize ho2:Bc [p0,p1,p2,p3] sets (o1) p1.at_=o2 at *;generalize ht2:togL [p1] (nth sets p1.at_.toNat)=t2 at *;generalize ho3:Bc [p0,p1,p2,p3] sets (o2) p3.at_=o3 at *;generalize ht3:togL [p3] (nth sets p3.at_.toNat)=t3 at *;have hF:=Bp o3 (by have:=A3.2;omega);have hL:=Bu o3 (by have:=A3.2;omega);clear hS hv ho1 ht1 l1 ho2 ht2 l2 ho3 ht3 l3;refine A7 A9 ?_;unfold A6;(with_reducible repeat' (first|(simp(disch:=omega)only[push_cast,↓zz,seval])|refine And.intro ?_ ?_|(first|refine Ab ?_ ?_|refine Aa ?_ ?_)<;>intro hc<;>(try simp only[push_cast] at hc)|omega|intro _));refine Bb 6 ?_;(with_reducible repeat' (first|(simp(disch:=omega)only[push_cast,↓zz,seval,xx,List.mem_cons,List.not_mem_nil,or_false,false_or,not_or,not_false_eq_true,true_or,or_true,Cb,setM,e2,n01,n03,n13])|refine And.intro ?_ ?_|(first|refine Ab ?_ ?_|refine Aa ?_ ?_)<;>intro hc<;>(try simp only[push_cast] at hc)|refine Am ?_|refine Cm [1,5] ?_|omega|intro _));refine Bo 6 (fun env=>[Bm 1 (env 6)]) [(1,Ao sets),(6,.map 0 1),(10,Aj [⟨sm,sm⟩]),(53,.lst 1 [.int .i64 p0.at_,.int .i64 p1.at_,.int .i64 p3.at_]),(54,.int .i64 3),(55,.int .i64 0)] [⟨0,1,true,[.int .i64 p0.at_,Bg [p0,p2],.int .i64 p1.at_,Bg [p1],.int .i64 p3.at_,Bg [p3]]⟩] ?_ ?_
 · (with_reducible repeat' (first|(simp(disch:=omega)only[push_cast,↓zz,seval,e2,n01,n03,n13])|refine And.intro ?_ ?_|(first|refine Ab ?_ ?_|refine Aa ?_ ?_)<;>intro hc<;>(try simp only[push_cast] at hc)|omega|intro _))
   all_goals (simp only[Cj,e2,n01,n03,n13];done)
 (with_reducible repeat' (first|(simp(disch:=omega)only[push_cast,↓zz,seval,Cb,B9,hg,e2,n01,n03,n13])|refine And.intro ?_ ?_|(first|refine Ab ?_ ?_|refine Aa ?_ ?_)<;>intro hc<;>(try simp only[push_cast] at hc)|refine Am ?_|refine eQ T1 ?_|refine eQ P1 ?_|refine eK T1 ?_|refine eK P1 ?_|refine eQ T2 ?_|refine eQ P2 ?_|refine eK T2 ?_|refine eK P2 ?_|refine eQ T3 ?_|refine eQ P3 ?_|refine eK T3 ?_|refine eK P3 ?_|refine eK hF ?_|refine eK hL ?_|omega|intro _))
 all_goals ((try simp only[*,decide_true,decide_false,Bool.true_and,Bool.false_and]);(repeat' (first|(simp(disch:=omega)only[push_cast,↓zz,seval,B8])|omega|(with_reducible refine And.intro ?_ ?_))))
theorem z9c (bs dr tk up sm:Int) (p0 p1 p2 p3:Part) (sets:List (List Span)) (hs:B4 sm=true) (hS:Cs [p0,p1,p2,p3] sets) (e2:p2.at_=p1.at_) (e3:p3.at_=p0.at_) (n01:¬p0.at_=p1.at_) :
   PC Tryz.prog 196 [Cn ⟨bs,dr,tk,up,sm,[p0,p1,p2,p3]⟩,Ao sets] (.tup [Aj (Ba ⟨bs,dr,tk,up,sm,[p0,p1,p2,p3]⟩ sets),.bool (B9 (Ba ⟨bs,dr,tk,up,sm,[p0,p1,p2,p3]⟩ sets))]):=by
 have hg:=Ah sets;have b0:=Ai (hS.parts p0 (by simp));have b1:=Ai (hS.parts p1 (by simp));have b2:=Ai (hS.parts p2 (by simp));have b3:=Ai (hS.parts p3 (by simp));have A0:=Cx hs;obtain⟨T1,P1,A1⟩:=Al (a:=p0.at_) hS A0 (by omega) (by simp);have l1:atL [p0,p1,p2,p3] p0.at_=[p0,p3]:=by simp[atL,e2,e3,n01,Ne.symm (show p0.at_≠p1.at_ from n01)]
 rw[l1] at T1 P1;obtain⟨T2,P2,A2⟩:=Al (a:=p1.at_) hS A1 (by omega) (by simp);have l2:atL [p0,p1,p2,p3] p1.at_=[p1,p2]:=by simp[atL,e2,e3,n01,Ne.symm (show p0.at_≠p1.at_ from n01)]
 rw[l2] at T2 P2;have hv:Ba ⟨bs,dr,tk,up,sm,[p0,p1,p2,p3]⟩ sets=Bc [p0,p1,p2,p3] sets (Bc [p0,p1,p2,p3] sets ([⟨sm,sm⟩]) p0.at_) p1.at_:=by simp[Ba,B5,B1,e2,e3,n01,Ne.symm (show p0.at_≠p1.at_ from n01)]
 rw[hv];generalize ho1:Bc [p0,p1,p2,p3] sets ([⟨sm,sm⟩]) p0.at_=o1 at *;generalize ht1:togL [p0,p3] (nth sets p0.at_.toNat)=t1 at *;generalize ho2:Bc [p0,p1,p2,p3] sets (o1) p1.at_=o2 at *;generalize ht2:togL [p1,p2] (nth sets p1.at_.toNat)=t2 at *;have hF:=Bp o2 (by have:=A2.2;omega);have hL:=Bu o2 (by have:=A2.2;omega);clear hS hv ho1 ht1 l1 ho2 ht2 l2;refine A7 A9 ?_;unfold A6;(with_reducible repeat' (first|(simp(disch:=omega)only[push_cast,↓zz,seval])|refine And.intro ?_ ?_|(first|refine Ab ?_ ?_|refine Aa ?_ ?_)<;>intro hc<;>(try simp only[push_cast] at hc)|omega|intro _));refine Bb 6 ?_;(with_reducible repeat' (first|(simp(disch:=omega)only[push_cast,↓zz,seval,xx,List.mem_cons,List.not_mem_nil,or_false,false_or,not_or,not_false_eq_true,true_or,or_true,Cb,setM,e2,e3,n01])|refine And.intro ?_ ?_|(first|refine Ab ?_ ?_|refine Aa ?_ ?_)<;>intro hc<;>(try simp only[push_cast] at hc)|refine Am ?_|refine Cm [1,5,8] ?_|omega|intro _));refine Bo 6 (fun env=>[Bm 1 (env 6)]) [(1,Ao sets),(6,.map 0 1),(10,Aj [⟨sm,sm⟩]),(53,.lst 1 [.int .i64 p0.at_,.int .i64 p1.at_]),(54,.int .i64 2),(55,.int .i64 0)] [⟨0,1,true,[.int .i64 p0.at_,Bg [p0,p3],.int .i64 p1.at_,Bg [p1,p2]]⟩] ?_ ?_
 · (with_reducible repeat' (first|(simp(disch:=omega)only[push_cast,↓zz,seval,e2,e3,n01])|refine And.intro ?_ ?_|(first|refine Ab ?_ ?_|refine Aa ?_ ?_)<;>intro hc<;>(try simp only[push_cast] at hc)|omega|intro _))
   all_goals (simp only[Cj,e2,e3,n01];done)
 (with_reducible repeat' (first|(simp(disch:=omega)only[push_cast,↓zz,seval,Cb,B9,hg,e2,e3,n01])|refine And.intro ?_ ?_|(first|refine Ab ?_ ?_|refine Aa ?_ ?_)<;>intro hc<;>(try simp only[push_cast] at hc)|refine Am ?_|refine eQ T1 ?_|refine eQ P1 ?_|refine eK T1 ?_|refine eK P1 ?_|refine eQ T2 ?_|refine eQ P2 ?_|refine eK T2 ?_|refine eK P2 ?_|refine eK hF ?_|refine eK hL ?_|omega|intro _))
 all_goals ((try simp only[*,decide_true,decide_false,Bool.true_and,Bool.false_and]);(repeat' (first|(simp(disch:=omega)only[push_cast,↓zz,seval,B8])|omega|(with_reducible refine And.intro ?_ ?_))))
theorem z9d (bs dr tk up sm:Int) (p0 p1 p2 p3:Part) (sets:List (List Span)) (hs:B4 sm=true) (hS:Cs [p0,p1,p2,p3] sets) (e2:p2.at_=p1.at_) (e3:p3.at_=p1.at_) (n01:¬p0.at_=p1.at_) :
   PC Tryz.prog 196 [Cn ⟨bs,dr,tk,up,sm,[p0,p1,p2,p3]⟩,Ao sets] (.tup [Aj (Ba ⟨bs,dr,tk,up,sm,[p0,p1,p2,p3]⟩ sets),.bool (B9 (Ba ⟨bs,dr,tk,up,sm,[p0,p1,p2,p3]⟩ sets))]):=by
 have hg:=Ah sets;have b0:=Ai (hS.parts p0 (by simp));have b1:=Ai (hS.parts p1 (by simp));have b2:=Ai (hS.parts p2 (by simp));have b3:=Ai (hS.parts p3 (by simp));have A0:=Cx hs;obtain⟨T1,P1,A1⟩:=Al (a:=p0.at_) hS A0 (by omega) (by simp);have l1:atL [p0,p1,p2,p3] p0.at_=[p0]:=by simp[atL,e2,e3,n01,Ne.symm (show p0.at_≠p1.at_ from n01)]
 rw[l1] at T1 P1;obtain⟨T2,P2,A2⟩:=Al (a:=p1.at_) hS A1 (by omega) (by simp);have l2:atL [p0,p1,p2,p3] p1.at_=[p1,p2,p3]:=by simp[atL,e2,e3,n01,Ne.symm (show p0.at_≠p1.at_ from n01)]
 rw[l2] at T2 P2;have hv:Ba ⟨bs,dr,tk,up,sm,[p0,p1,p2,p3]⟩ sets=Bc [p0,p1,p2,p3] sets (Bc [p0,p1,p2,p3] sets ([⟨sm,sm⟩]) p0.at_) p1.at_:=by simp[Ba,B5,B1,e2,e3,n01,Ne.symm (show p0.at_≠p1.at_ from n01)]
 rw[hv];generalize ho1:Bc [p0,p1,p2,p3] sets ([⟨sm,sm⟩]) p0.at_=o1 at *;generalize ht1:togL [p0] (nth sets p0.at_.toNat)=t1 at *;generalize ho2:Bc [p0,p1,p2,p3] sets (o1) p1.at_=o2 at *;generalize ht2:togL [p1,p2,p3] (nth sets p1.at_.toNat)=t2 at *;have hF:=Bp o2 (by have:=A2.2;omega);have hL:=Bu o2 (by have:=A2.2;omega);clear hS hv ho1 ht1 l1 ho2 ht2 l2;refine A7 A9 ?_;unfold A6;(with_reducible repeat' (first|(simp(disch:=omega)only[push_cast,↓zz,seval])|refine And.intro ?_ ?_|(first|refine Ab ?_ ?_|refine Aa ?_ ?_)<;>intro hc<;>(try simp only[push_cast] at hc)|omega|intro _));refine Bb 6 ?_;(with_reducible repeat' (first|(simp(disch:=omega)only[push_cast,↓zz,seval,xx,List.mem_cons,List.not_mem_nil,or_false,false_or,not_or,not_false_eq_true,true_or,or_true,Cb,setM,e2,e3,n01])|refine And.intro ?_ ?_|(first|refine Ab ?_ ?_|refine Aa ?_ ?_)<;>intro hc<;>(try simp only[push_cast] at hc)|refine Am ?_|refine Cm [1,8] ?_|omega|intro _));refine Bo 6 (fun env=>[Bm 1 (env 6)]) [(1,Ao sets),(6,.map 0 1),(10,Aj [⟨sm,sm⟩]),(53,.lst 1 [.int .i64 p0.at_,.int .i64 p1.at_]),(54,.int .i64 2),(55,.int .i64 0)] [⟨0,1,true,[.int .i64 p0.at_,Bg [p0],.int .i64 p1.at_,Bg [p1,p2,p3]]⟩] ?_ ?_
 · (with_reducible repeat' (first|(simp(disch:=omega)only[push_cast,↓zz,seval,e2,e3,n01])|refine And.intro ?_ ?_|(first|refine Ab ?_ ?_|refine Aa ?_ ?_)<;>intro hc<;>(try simp only[push_cast] at hc)|omega|intro _))
   all_goals (simp only[Cj,e2,e3,n01];done)
 (with_reducible repeat' (first|(simp(disch:=omega)only[push_cast,↓zz,seval,Cb,B9,hg,e2,e3,n01])|refine And.intro ?_ ?_|(first|refine Ab ?_ ?_|refine Aa ?_ ?_)<;>intro hc<;>(try simp only[push_cast] at hc)|refine Am ?_|refine eQ T1 ?_|refine eQ P1 ?_|refine eK T1 ?_|refine eK P1 ?_|refine eQ T2 ?_|refine eQ P2 ?_|refine eK T2 ?_|refine eK P2 ?_|refine eK hF ?_|refine eK hL ?_|omega|intro _))
 all_goals ((try simp only[*,decide_true,decide_false,Bool.true_and,Bool.false_and]);(repeat' (first|(simp(disch:=omega)only[push_cast,↓zz,seval,B8])|omega|(with_reducible refine And.intro ?_ ?_))))
theorem z2h (bs dr tk up sm:Int) (p0 p1 p2 p3:Part) (sets:List (List Span)) (hs:B4 sm=true) (hS:Cs [p0,p1,p2,p3] sets) (e2:p2.at_=p1.at_) (n01:¬p0.at_=p1.at_) (n03:¬p0.at_=p3.at_) (n13:¬p1.at_=p3.at_) :
   PC Tryz.prog 196 [Cn ⟨bs,dr,tk,up,sm,[p0,p1,p2,p3]⟩,Ao sets] (.tup [Aj (Ba ⟨bs,dr,tk,up,sm,[p0,p1,p2,p3]⟩ sets),.bool (B9 (Ba ⟨bs,dr,tk,up,sm,[p0,p1,p2,p3]⟩ sets))]):=by
 have hg:=Ah sets;have b0:=Ai (hS.parts p0 (by simp));have b1:=Ai (hS.parts p1 (by simp));have b2:=Ai (hS.parts p2 (by simp));have b3:=Ai (hS.parts p3 (by simp));have A0:=Cx hs;obtain⟨T1,P1,A1⟩:=Al (a:=p0.at_) hS A0 (by omega) (by simp);have l1:atL [p0,p1,p2,p3] p0.at_=[p0]:=by simp[atL,e2,n01,n03,n13,Ne.symm (show p0.at_≠p1.at_ from n01),Ne.symm (show p0.at_≠p3.at_ from n03),Ne.symm (show p1.at_≠p3.at_ from n13)]
 rw[l1] at T1 P1;obtain⟨T2,P2,A2⟩:=Al (a:=p1.at_) hS A1 (by omega) (by simp);have l2:atL [p0,p1,p2,p3] p1.at_=[p1,p2]:=by simp[atL,e2,n01,n03,n13,Ne.symm (show p0.at_≠p1.at_ from n01),Ne.symm (show p0.at_≠p3.at_ from n03),Ne.symm (show p1.at_≠p3.at_ from n13)]
 rw[l2] at T2 P2;obtain⟨T3,P3,A3⟩:=Al (a:=p3.at_) hS A2 (by omega) (by simp);have l3:atL [p0,p1,p2,p3] p3.at_=[p3]:=by simp[atL,e2,n01,n03,n13,Ne.symm (show p0.at_≠p1.at_ from n01),Ne.symm (show p0.at_≠p3.at_ from n03),Ne.symm (show p1.at_≠p3.at_ from n13)]
 rw[l3] at T3 P3;have hv:Ba ⟨bs,dr,tk,up,sm,[p0,p1,p2,p3]⟩ sets=Bc [p0,p1,p2,p3] sets (Bc [p0,p1,p2,p3] sets (Bc [p0,p1,p2,p3] sets ([⟨sm,sm⟩]) p0.at_) p1.at_) p3.at_:=by simp[Ba,B5,B1,e2,n01,n03,n13,Ne.symm (show p0.at_≠p1.at_ from n01),Ne.symm (show p0.at_≠p3.at_ from n03),Ne.symm (show p1.at_≠p3.at_ from n13)]
 rw[hv];generalize ho1:Bc [p0,p1,p2,p3] sets ([⟨sm,sm⟩]) p0.at_=o1 at *;generalize ht1:togL [p0] (nth sets p0.at_.toNat)=t1 at *;generalize ho2:Bc [p0,p1,p2,p3] sets (o1) p1.at_=o2 at *;generalize ht2:togL [p1,p2] (nth sets p1.at_.toNat)=t2 at *;generalize ho3:Bc [p0,p1,p2,p3] sets (o2) p3.at_=o3 at *;generalize ht3:togL [p3] (nth sets p3.at_.toNat)=t3 at *;have hF:=Bp o3 (by have:=A3.2;omega);have hL:=Bu o3 (by have:=A3.2;omega);clear hS hv ho1 ht1 l1 ho2 ht2 l2 ho3 ht3 l3;refine A7 A9 ?_;unfold A6;(with_reducible repeat' (first|(simp(disch:=omega)only[push_cast,↓zz,seval])|refine And.intro ?_ ?_|(first|refine Ab ?_ ?_|refine Aa ?_ ?_)<;>intro hc<;>(try simp only[push_cast] at hc)|omega|intro _));refine Bb 6 ?_;(with_reducible repeat' (first|(simp(disch:=omega)only[push_cast,↓zz,seval,xx,List.mem_cons,List.not_mem_nil,or_false,false_or,not_or,not_false_eq_true,true_or,or_true,Cb,setM,e2,n01,n03,n13])|refine And.intro ?_ ?_|(first|refine Ab ?_ ?_|refine Aa ?_ ?_)<;>intro hc<;>(try simp only[push_cast] at hc)|refine Am ?_|refine Cm [1,8] ?_|omega|intro _));refine Bo 6 (fun env=>[Bm 1 (env 6)]) [(1,Ao sets),(6,.map 0 1),(10,Aj [⟨sm,sm⟩]),(53,.lst 1 [.int .i64 p0.at_,.int .i64 p1.at_,.int .i64 p3.at_]),(54,.int .i64 3),(55,.int .i64 0)] [⟨0,1,true,[.int .i64 p0.at_,Bg [p0],.int .i64 p1.at_,Bg [p1,p2],.int .i64 p3.at_,Bg [p3]]⟩] ?_ ?_
 · (with_reducible repeat' (first|(simp(disch:=omega)only[push_cast,↓zz,seval,e2,n01,n03,n13])|refine And.intro ?_ ?_|(first|refine Ab ?_ ?_|refine Aa ?_ ?_)<;>intro hc<;>(try simp only[push_cast] at hc)|omega|intro _))
   all_goals (simp only[Cj,e2,n01,n03,n13];done)
 (with_reducible repeat' (first|(simp(disch:=omega)only[push_cast,↓zz,seval,Cb,B9,hg,e2,n01,n03,n13])|refine And.intro ?_ ?_|(first|refine Ab ?_ ?_|refine Aa ?_ ?_)<;>intro hc<;>(try simp only[push_cast] at hc)|refine Am ?_|refine eQ T1 ?_|refine eQ P1 ?_|refine eK T1 ?_|refine eK P1 ?_|refine eQ T2 ?_|refine eQ P2 ?_|refine eK T2 ?_|refine eK P2 ?_|refine eQ T3 ?_|refine eQ P3 ?_|refine eK T3 ?_|refine eK P3 ?_|refine eK hF ?_|refine eK hL ?_|omega|intro _))
 all_goals ((try simp only[*,decide_true,decide_false,Bool.true_and,Bool.false_and]);(repeat' (first|(simp(disch:=omega)only[push_cast,↓zz,seval,B8])|omega|(with_reducible refine And.intro ?_ ?_))))
theorem z2i (bs dr tk up sm:Int) (p0 p1 p2 p3:Part) (sets:List (List Span)) (hs:B4 sm=true) (hS:Cs [p0,p1,p2,p3] sets) (e3:p3.at_=p0.at_) (n01:¬p0.at_=p1.at_) (n02:¬p0.at_=p2.at_) (n12:¬p1.at_=p2.at_) :
   PC Tryz.prog 196 [Cn ⟨bs,dr,tk,up,sm,[p0,p1,p2,p3]⟩,Ao sets] (.tup [Aj (Ba ⟨bs,dr,tk,up,sm,[p0,p1,p2,p3]⟩ sets),.bool (B9 (Ba ⟨bs,dr,tk,up,sm,[p0,p1,p2,p3]⟩ sets))]):=by
 have hg:=Ah sets;have b0:=Ai (hS.parts p0 (by simp));have b1:=Ai (hS.parts p1 (by simp));have b2:=Ai (hS.parts p2 (by simp));have b3:=Ai (hS.parts p3 (by simp));have A0:=Cx hs;obtain⟨T1,P1,A1⟩:=Al (a:=p0.at_) hS A0 (by omega) (by simp);have l1:atL [p0,p1,p2,p3] p0.at_=[p0,p3]:=by simp[atL,e3,n01,n02,n12,Ne.symm (show p0.at_≠p1.at_ from n01),Ne.symm (show p0.at_≠p2.at_ from n02),Ne.symm (show p1.at_≠p2.at_ from n12)]
 rw[l1] at T1 P1;obtain⟨T2,P2,A2⟩:=Al (a:=p1.at_) hS A1 (by omega) (by simp);have l2:atL [p0,p1,p2,p3] p1.at_=[p1]:=by simp[atL,e3,n01,n02,n12,Ne.symm (show p0.at_≠p1.at_ from n01),Ne.symm (show p0.at_≠p2.at_ from n02),Ne.symm (show p1.at_≠p2.at_ from n12)]
 rw[l2] at T2 P2;obtain⟨T3,P3,A3⟩:=Al (a:=p2.at_) hS A2 (by omega) (by simp);have l3:atL [p0,p1,p2,p3] p2.at_=[p2]:=by simp[atL,e3,n01,n02,n12,Ne.symm (show p0.at_≠p1.at_ from n01),Ne.symm (show p0.at_≠p2.at_ from n02),Ne.symm (show p1.at_≠p2.at_ from n12)]
 rw[l3] at T3 P3;have hv:Ba ⟨bs,dr,tk,up,sm,[p0,p1,p2,p3]⟩ sets=Bc [p0,p1,p2,p3] sets (Bc [p0,p1,p2,p3] sets (Bc [p0,p1,p2,p3] sets ([⟨sm,sm⟩]) p0.at_) p1.at_) p2.at_:=by simp[Ba,B5,B1,e3,n01,n02,n12,Ne.symm (show p0.at_≠p1.at_ from n01),Ne.symm (show p0.at_≠p2.at_ from n02),Ne.symm (show p1.at_≠p2.at_ from n12)]
 rw[hv];generalize ho1:Bc [p0,p1,p2,p3] sets ([⟨sm,sm⟩]) p0.at_=o1 at *;generalize ht1:togL [p0,p3] (nth sets p0.at_.toNat)=t1 at *;generalize ho2:Bc [p0,p1,p2,p3] sets (o1) p1.at_=o2 at *;generalize ht2:togL [p1] (nth sets p1.at_.toNat)=t2 at *;generalize ho3:Bc [p0,p1,p2,p3] sets (o2) p2.at_=o3 at *;generalize ht3:togL [p2] (nth sets p2.at_.toNat)=t3 at *;have hF:=Bp o3 (by have:=A3.2;omega);have hL:=Bu o3 (by have:=A3.2;omega);clear hS hv ho1 ht1 l1 ho2 ht2 l2 ho3 ht3 l3;refine A7 A9 ?_;unfold A6;(with_reducible repeat' (first|(simp(disch:=omega)only[push_cast,↓zz,seval])|refine And.intro ?_ ?_|(first|refine Ab ?_ ?_|refine Aa ?_ ?_)<;>intro hc<;>(try simp only[push_cast] at hc)|omega|intro _));refine Bb 6 ?_;(with_reducible repeat' (first|(simp(disch:=omega)only[push_cast,↓zz,seval,xx,List.mem_cons,List.not_mem_nil,or_false,false_or,not_or,not_false_eq_true,true_or,or_true,Cb,setM,e3,n01,n02,n12])|refine And.intro ?_ ?_|(first|refine Ab ?_ ?_|refine Aa ?_ ?_)<;>intro hc<;>(try simp only[push_cast] at hc)|refine Am ?_|refine Cm [1,5] ?_|omega|intro _));refine Bo 6 (fun env=>[Bm 1 (env 6)]) [(1,Ao sets),(6,.map 0 1),(10,Aj [⟨sm,sm⟩]),(53,.lst 1 [.int .i64 p0.at_,.int .i64 p1.at_,.int .i64 p2.at_]),(54,.int .i64 3),(55,.int .i64 0)] [⟨0,1,true,[.int .i64 p0.at_,Bg [p0,p3],.int .i64 p1.at_,Bg [p1],.int .i64 p2.at_,Bg [p2]]⟩] ?_ ?_
 · (with_reducible repeat' (first|(simp(disch:=omega)only[push_cast,↓zz,seval,e3,n01,n02,n12])|refine And.intro ?_ ?_|(first|refine Ab ?_ ?_|refine Aa ?_ ?_)<;>intro hc<;>(try simp only[push_cast] at hc)|omega|intro _))
   all_goals (simp only[Cj,e3,n01,n02,n12];done)
 (with_reducible repeat' (first|(simp(disch:=omega)only[push_cast,↓zz,seval,Cb,B9,hg,e3,n01,n02,n12])|refine And.intro ?_ ?_|(first|refine Ab ?_ ?_|refine Aa ?_ ?_)<;>intro hc<;>(try simp only[push_cast] at hc)|refine Am ?_|refine eQ T1 ?_|refine eQ P1 ?_|refine eK T1 ?_|refine eK P1 ?_|refine eQ T2 ?_|refine eQ P2 ?_|refine eK T2 ?_|refine eK P2 ?_|refine eQ T3 ?_|refine eQ P3 ?_|refine eK T3 ?_|refine eK P3 ?_|refine eK hF ?_|refine eK hL ?_|omega|intro _))
 all_goals ((try simp only[*,decide_true,decide_false,Bool.true_and,Bool.false_and]);(repeat' (first|(simp(disch:=omega)only[push_cast,↓zz,seval,B8])|omega|(with_reducible refine And.intro ?_ ?_))))
theorem z2j (bs dr tk up sm:Int) (p0 p1 p2 p3:Part) (sets:List (List Span)) (hs:B4 sm=true) (hS:Cs [p0,p1,p2,p3] sets) (e3:p3.at_=p1.at_) (n01:¬p0.at_=p1.at_) (n02:¬p0.at_=p2.at_) (n12:¬p1.at_=p2.at_) :
   PC Tryz.prog 196 [Cn ⟨bs,dr,tk,up,sm,[p0,p1,p2,p3]⟩,Ao sets] (.tup [Aj (Ba ⟨bs,dr,tk,up,sm,[p0,p1,p2,p3]⟩ sets),.bool (B9 (Ba ⟨bs,dr,tk,up,sm,[p0,p1,p2,p3]⟩ sets))]):=by
 have hg:=Ah sets;have b0:=Ai (hS.parts p0 (by simp));have b1:=Ai (hS.parts p1 (by simp));have b2:=Ai (hS.parts p2 (by simp));have b3:=Ai (hS.parts p3 (by simp));have A0:=Cx hs;obtain⟨T1,P1,A1⟩:=Al (a:=p0.at_) hS A0 (by omega) (by simp);have l1:atL [p0,p1,p2,p3] p0.at_=[p0]:=by simp[atL,e3,n01,n02,n12,Ne.symm (show p0.at_≠p1.at_ from n01),Ne.symm (show p0.at_≠p2.at_ from n02),Ne.symm (show p1.at_≠p2.at_ from n12)]
 rw[l1] at T1 P1;obtain⟨T2,P2,A2⟩:=Al (a:=p1.at_) hS A1 (by omega) (by simp);have l2:atL [p0,p1,p2,p3] p1.at_=[p1,p3]:=by simp[atL,e3,n01,n02,n12,Ne.symm (show p0.at_≠p1.at_ from n01),Ne.symm (show p0.at_≠p2.at_ from n02),Ne.symm (show p1.at_≠p2.at_ from n12)]
 rw[l2] at T2 P2;obtain⟨T3,P3,A3⟩:=Al (a:=p2.at_) hS A2 (by omega) (by simp);have l3:atL [p0,p1,p2,p3] p2.at_=[p2]:=by simp[atL,e3,n01,n02,n12,Ne.symm (show p0.at_≠p1.at_ from n01),Ne.symm (show p0.at_≠p2.at_ from n02),Ne.symm (show p1.at_≠p2.at_ from n12)]
 rw[l3] at T3 P3;have hv:Ba ⟨bs,dr,tk,up,sm,[p0,p1,p2,p3]⟩ sets=Bc [p0,p1,p2,p3] sets (Bc [p0,p1,p2,p3] sets (Bc [p0,p1,p2,p3] sets ([⟨sm,sm⟩]) p0.at_) p1.at_) p2.at_:=by simp[Ba,B5,B1,e3,n01,n02,n12,Ne.symm (show p0.at_≠p1.at_ from n01),Ne.symm (show p0.at_≠p2.at_ from n02),Ne.symm (show p1.at_≠p2.at_ from n12)]
 rw[hv];generalize ho1:Bc [p0,p1,p2,p3] sets ([⟨sm,sm⟩]) p0.at_=o1 at *;generalize ht1:togL [p0] (nth sets p0.at_.toNat)=t1 at *;generalize ho2:Bc [p0,p1,p2,p3] sets (o1) p1.at_=o2 at *;generalize ht2:togL [p1,p3] (nth sets p1.at_.toNat)=t2 at *;generalize ho3:Bc [p0,p1,p2,p3] sets (o2) p2.at_=o3 at *;generalize ht3:togL [p2] (nth sets p2.at_.toNat)=t3 at *;have hF:=Bp o3 (by have:=A3.2;omega);have hL:=Bu o3 (by have:=A3.2;omega);clear hS hv ho1 ht1 l1 ho2 ht2 l2 ho3 ht3 l3;refine A7 A9 ?_;unfold A6;(with_reducible repeat' (first|(simp(disch:=omega)only[push_cast,↓zz,seval])|refine And.intro ?_ ?_|(first|refine Ab ?_ ?_|refine Aa ?_ ?_)<;>intro hc<;>(try simp only[push_cast] at hc)|omega|intro _));refine Bb 6 ?_;(with_reducible repeat' (first|(simp(disch:=omega)only[push_cast,↓zz,seval,xx,List.mem_cons,List.not_mem_nil,or_false,false_or,not_or,not_false_eq_true,true_or,or_true,Cb,setM,e3,n01,n02,n12])|refine And.intro ?_ ?_|(first|refine Ab ?_ ?_|refine Aa ?_ ?_)<;>intro hc<;>(try simp only[push_cast] at hc)|refine Am ?_|refine Cm [1,8] ?_|omega|intro _));refine Bo 6 (fun env=>[Bm 1 (env 6)]) [(1,Ao sets),(6,.map 0 1),(10,Aj [⟨sm,sm⟩]),(53,.lst 1 [.int .i64 p0.at_,.int .i64 p1.at_,.int .i64 p2.at_]),(54,.int .i64 3),(55,.int .i64 0)] [⟨0,1,true,[.int .i64 p0.at_,Bg [p0],.int .i64 p1.at_,Bg [p1,p3],.int .i64 p2.at_,Bg [p2]]⟩] ?_ ?_
 · (with_reducible repeat' (first|(simp(disch:=omega)only[push_cast,↓zz,seval,e3,n01,n02,n12])|refine And.intro ?_ ?_|(first|refine Ab ?_ ?_|refine Aa ?_ ?_)<;>intro hc<;>(try simp only[push_cast] at hc)|omega|intro _))
   all_goals (simp only[Cj,e3,n01,n02,n12];done)
 (with_reducible repeat' (first|(simp(disch:=omega)only[push_cast,↓zz,seval,Cb,B9,hg,e3,n01,n02,n12])|refine And.intro ?_ ?_|(first|refine Ab ?_ ?_|refine Aa ?_ ?_)<;>intro hc<;>(try simp only[push_cast] at hc)|refine Am ?_|refine eQ T1 ?_|refine eQ P1 ?_|refine eK T1 ?_|refine eK P1 ?_|refine eQ T2 ?_|refine eQ P2 ?_|refine eK T2 ?_|refine eK P2 ?_|refine eQ T3 ?_|refine eQ P3 ?_|refine eK T3 ?_|refine eK P3 ?_|refine eK hF ?_|refine eK hL ?_|omega|intro _))
 all_goals ((try simp only[*,decide_true,decide_false,Bool.true_and,Bool.false_and]);(repeat' (first|(simp(disch:=omega)only[push_cast,↓zz,seval,B8])|omega|(with_reducible refine And.intro ?_ ?_))))
theorem z2k (bs dr tk up sm:Int) (p0 p1 p2 p3:Part) (sets:List (List Span)) (hs:B4 sm=true) (hS:Cs [p0,p1,p2,p3] sets) (e3:p3.at_=p2.at_) (n01:¬p0.at_=p1.at_) (n02:¬p0.at_=p2.at_) (n12:¬p1.at_=p2.at_) :
   PC Tryz.prog 196 [Cn ⟨bs,dr,tk,up,sm,[p0,p1,p2,p3]⟩,Ao sets] (.tup [Aj (Ba ⟨bs,dr,tk,up,sm,[p0,p1,p2,p3]⟩ sets),.bool (B9 (Ba ⟨bs,dr,tk,up,sm,[p0,p1,p2,p3]⟩ sets))]):=by
 have hg:=Ah sets;have b0:=Ai (hS.parts p0 (by simp));have b1:=Ai (hS.parts p1 (by simp));have b2:=Ai (hS.parts p2 (by simp));have b3:=Ai (hS.parts p3 (by simp));have A0:=Cx hs;obtain⟨T1,P1,A1⟩:=Al (a:=p0.at_) hS A0 (by omega) (by simp);have l1:atL [p0,p1,p2,p3] p0.at_=[p0]:=by simp[atL,e3,n01,n02,n12,Ne.symm (show p0.at_≠p1.at_ from n01),Ne.symm (show p0.at_≠p2.at_ from n02),Ne.symm (show p1.at_≠p2.at_ from n12)]
 rw[l1] at T1 P1;obtain⟨T2,P2,A2⟩:=Al (a:=p1.at_) hS A1 (by omega) (by simp);have l2:atL [p0,p1,p2,p3] p1.at_=[p1]:=by simp[atL,e3,n01,n02,n12,Ne.symm (show p0.at_≠p1.at_ from n01),Ne.symm (show p0.at_≠p2.at_ from n02),Ne.symm (show p1.at_≠p2.at_ from n12)]
 rw[l2] at T2 P2;obtain⟨T3,P3,A3⟩:=Al (a:=p2.at_) hS A2 (by omega) (by simp);have l3:atL [p0,p1,p2,p3] p2.at_=[p2,p3]:=by simp[atL,e3,n01,n02,n12,Ne.symm (show p0.at_≠p1.at_ from n01),Ne.symm (show p0.at_≠p2.at_ from n02),Ne.symm (show p1.at_≠p2.at_ from n12)]
 rw[l3] at T3 P3;have hv:Ba ⟨bs,dr,tk,up,sm,[p0,p1,p2,p3]⟩ sets=Bc [p0,p1,p2,p3] sets (Bc [p0,p1,p2,p3] sets (Bc [p0,p1,p2,p3] sets ([⟨sm,sm⟩]) p0.at_) p1.at_) p2.at_:=by simp[Ba,B5,B1,e3,n01,n02,n12,Ne.symm (show p0.at_≠p1.at_ from n01),Ne.symm (show p0.at_≠p2.at_ from n02),Ne.symm (show p1.at_≠p2.at_ from n12)]
 rw[hv];generalize ho1:Bc [p0,p1,p2,p3] sets ([⟨sm,sm⟩]) p0.at_=o1 at *;generalize ht1:togL [p0] (nth sets p0.at_.toNat)=t1 at *;generalize ho2:Bc [p0,p1,p2,p3] sets (o1) p1.at_=o2 at *;generalize ht2:togL [p1] (nth sets p1.at_.toNat)=t2 at *;generalize ho3:Bc [p0,p1,p2,p3] sets (o2) p2.at_=o3 at *;generalize ht3:togL [p2,p3] (nth sets p2.at_.toNat)=t3 at *;have hF:=Bp o3 (by have:=A3.2;omega);have hL:=Bu o3 (by have:=A3.2;omega);clear hS hv ho1 ht1 l1 ho2 ht2 l2 ho3 ht3 l3;refine A7 A9 ?_;unfold A6;(with_reducible repeat' (first|(simp(disch:=omega)only[push_cast,↓zz,seval])|refine And.intro ?_ ?_|(first|refine Ab ?_ ?_|refine Aa ?_ ?_)<;>intro hc<;>(try simp only[push_cast] at hc)|omega|intro _));refine Bb 6 ?_;(with_reducible repeat' (first|(simp(disch:=omega)only[push_cast,↓zz,seval,xx,List.mem_cons,List.not_mem_nil,or_false,false_or,not_or,not_false_eq_true,true_or,or_true,Cb,setM,e3,n01,n02,n12])|refine And.intro ?_ ?_|(first|refine Ab ?_ ?_|refine Aa ?_ ?_)<;>intro hc<;>(try simp only[push_cast] at hc)|refine Am ?_|refine Cm [1,11] ?_|omega|intro _));refine Bo 6 (fun env=>[Bm 1 (env 6)]) [(1,Ao sets),(6,.map 0 1),(10,Aj [⟨sm,sm⟩]),(53,.lst 1 [.int .i64 p0.at_,.int .i64 p1.at_,.int .i64 p2.at_]),(54,.int .i64 3),(55,.int .i64 0)] [⟨0,1,true,[.int .i64 p0.at_,Bg [p0],.int .i64 p1.at_,Bg [p1],.int .i64 p2.at_,Bg [p2,p3]]⟩] ?_ ?_
 · (with_reducible repeat' (first|(simp(disch:=omega)only[push_cast,↓zz,seval,e3,n01,n02,n12])|refine And.intro ?_ ?_|(first|refine Ab ?_ ?_|refine Aa ?_ ?_)<;>intro hc<;>(try simp only[push_cast] at hc)|omega|intro _))
   all_goals (simp only[Cj,e3,n01,n02,n12];done)
 (with_reducible repeat' (first|(simp(disch:=omega)only[push_cast,↓zz,seval,Cb,B9,hg,e3,n01,n02,n12])|refine And.intro ?_ ?_|(first|refine Ab ?_ ?_|refine Aa ?_ ?_)<;>intro hc<;>(try simp only[push_cast] at hc)|refine Am ?_|refine eQ T1 ?_|refine eQ P1 ?_|refine eK T1 ?_|refine eK P1 ?_|refine eQ T2 ?_|refine eQ P2 ?_|refine eK T2 ?_|refine eK P2 ?_|refine eQ T3 ?_|refine eQ P3 ?_|refine eK T3 ?_|refine eK P3 ?_|refine eK hF ?_|refine eK hL ?_|omega|intro _))
 all_goals ((try simp only[*,decide_true,decide_false,Bool.true_and,Bool.false_and]);(repeat' (first|(simp(disch:=omega)only[push_cast,↓zz,seval,B8])|omega|(with_reducible refine And.intro ?_ ?_))))
theorem z2l (bs dr tk up sm:Int) (p0 p1 p2 p3:Part) (sets:List (List Span)) (hs:B4 sm=true) (hS:Cs [p0,p1,p2,p3] sets) (n01:¬p0.at_=p1.at_) (n02:¬p0.at_=p2.at_) (n03:¬p0.at_=p3.at_) (n12:¬p1.at_=p2.at_) (n13:¬p1.at_=p3.at_) (n23:¬p2.at_=p3.at_) :
   PC Tryz.prog 196 [Cn ⟨bs,dr,tk,up,sm,[p0,p1,p2,p3]⟩,Ao sets] (.tup [Aj (Ba ⟨bs,dr,tk,up,sm,[p0,p1,p2,p3]⟩ sets),.bool (B9 (Ba ⟨bs,dr,tk,up,sm,[p0,p1,p2,p3]⟩ sets))]):=by
 have hg:=Ah sets;have b0:=Ai (hS.parts p0 (by simp));have b1:=Ai (hS.parts p1 (by simp));have b2:=Ai (hS.parts p2 (by simp));have b3:=Ai (hS.parts p3 (by simp));have A0:=Cx hs;obtain⟨T1,P1,A1⟩:=Al (a:=p0.at_) hS A0 (by omega) (by simp);have l1:atL [p0,p1,p2,p3] p0.at_=[p0]:=by simp[atL,n01,n02,n03,n12,n13,n23,Ne.symm (show p0.at_≠p1.at_ from n01),Ne.symm (show p0.at_≠p2.at_ from n02),Ne.symm (show p0.at_≠p3.at_ from n03),Ne.symm (show p1.at_≠p2.at_ from n12),Ne.symm (show p1.at_≠p3.at_ from n13),Ne.symm (show p2.at_≠p3.at_ from n23)]
 rw[l1] at T1 P1;obtain⟨T2,P2,A2⟩:=Al (a:=p1.at_) hS A1 (by omega) (by simp);have l2:atL [p0,p1,p2,p3] p1.at_=[p1]:=by simp[atL,n01,n02,n03,n12,n13,n23,Ne.symm (show p0.at_≠p1.at_ from n01),Ne.symm (show p0.at_≠p2.at_ from n02),Ne.symm (show p0.at_≠p3.at_ from n03),Ne.symm (show p1.at_≠p2.at_ from n12),Ne.symm (show p1.at_≠p3.at_ from n13),Ne.symm (show p2.at_≠p3.at_ from n23)]
 rw[l2] at T2 P2;obtain⟨T3,P3,A3⟩:=Al (a:=p2.at_) hS A2 (by omega) (by simp);have l3:atL [p0,p1,p2,p3] p2.at_=[p2]:=by simp[atL,n01,n02,n03,n12,n13,n23,Ne.symm (show p0.at_≠p1.at_ from n01),Ne.symm (show p0.at_≠p2.at_ from n02),Ne.symm (show p0.at_≠p3.at_ from n03),Ne.symm (show p1.at_≠p2.at_ from n12),Ne.symm (show p1.at_≠p3.at_ from n13),Ne.symm (show p2.at_≠p3.at_ from n23)]
 rw[l3] at T3 P3;obtain⟨T4,P4,A4⟩:=Al (a:=p3.at_) hS A3 (by omega) (by simp);have l4:atL [p0,p1,p2,p3] p3.at_=[p3]:=by simp[atL,n01,n02,n03,n12,n13,n23,Ne.symm (show p0.at_≠p1.at_ from n01),Ne.symm (show p0.at_≠p2.at_ from n02),Ne.symm (show p0.at_≠p3.at_ from n03),Ne.symm (show p1.at_≠p2.at_ from n12),Ne.symm (show p1.at_≠p3.at_ from n13),Ne.symm (show p2.at_≠p3.at_ from n23)]
 rw[l4] at T4 P4;have hv:Ba ⟨bs,dr,tk,up,sm,[p0,p1,p2,p3]⟩ sets=Bc [p0,p1,p2,p3] sets (Bc [p0,p1,p2,p3] sets (Bc [p0,p1,p2,p3] sets (Bc [p0,p1,p2,p3] sets ([⟨sm,sm⟩]) p0.at_) p1.at_) p2.at_) p3.at_:=by simp[Ba,B5,B1,n01,n02,n03,n12,n13,n23,Ne.symm (show p0.at_≠p1.at_ from n01),Ne.symm (show p0.at_≠p2.at_ from n02),Ne.symm (show p0.at_≠p3.at_ from n03),Ne.symm (show p1.at_≠p2.at_ from n12),Ne.symm (show p1.at_≠p3.at_ from n13),Ne.symm (show p2.at_≠p3.at_ from n23)]
 rw[hv];generalize ho1:Bc [p0,p1,p2,p3] sets ([⟨sm,sm⟩]) p0.at_=o1 at *;generalize ht1:togL [p0] (nth sets p0.at_.toNat)=t1 at *;generalize ho2:Bc [p0,p1,p2,p3] sets (o1) p1.at_=o2 at *;generalize ht2:togL [p1] (nth sets p1.at_.toNat)=t2 at *;generalize ho3:Bc [p0,p1,p2,p3] sets (o2) p2.at_=o3 at *;generalize ht3:togL [p2] (nth sets p2.at_.toNat)=t3 at *;generalize ho4:Bc [p0,p1,p2,p3] sets (o3) p3.at_=o4 at *;generalize ht4:togL [p3] (nth sets p3.at_.toNat)=t4 at *;have hF:=Bp o4 (by have:=A4.2;omega);have hL:=Bu o4 (by have:=A4.2;omega);clear hS hv ho1 ht1 l1 ho2 ht2 l2 ho3 ht3 l3 ho4 ht4 l4;refine A7 A9 ?_;unfold A6;(with_reducible repeat' (first|(simp(disch:=omega)only[push_cast,↓zz,seval])|refine And.intro ?_ ?_|(first|refine Ab ?_ ?_|refine Aa ?_ ?_)<;>intro hc<;>(try simp only[push_cast] at hc)|omega|intro _));refine Bb 6 ?_;(with_reducible repeat' (first|(simp(disch:=omega)only[push_cast,↓zz,seval,xx,List.mem_cons,List.not_mem_nil,or_false,false_or,not_or,not_false_eq_true,true_or,or_true,Cb,setM,n01,n02,n03,n12,n13,n23])|refine And.intro ?_ ?_|(first|refine Ab ?_ ?_|refine Aa ?_ ?_)<;>intro hc<;>(try simp only[push_cast] at hc)|refine Am ?_|refine Cm [1] ?_|omega|intro _));refine Bo 6 (fun env=>[Bm 1 (env 6)]) [(1,Ao sets),(6,.map 0 1),(10,Aj [⟨sm,sm⟩]),(53,.lst 1 [.int .i64 p0.at_,.int .i64 p1.at_,.int .i64 p2.at_,.int .i64 p3.at_]),(54,.int .i64 4),(55,.int .i64 0)] [⟨0,1,true,[.int .i64 p0.at_,Bg [p0],.int .i64 p1.at_,Bg [p1],.int .i64 p2.at_,Bg [p2],.int .i64 p3.at_,Bg [p3]]⟩] ?_ ?_
 · (with_reducible repeat' (first|(simp(disch:=omega)only[push_cast,↓zz,seval,n01,n02,n03,n12,n13,n23])|refine And.intro ?_ ?_|(first|refine Ab ?_ ?_|refine Aa ?_ ?_)<;>intro hc<;>(try simp only[push_cast] at hc)|omega|intro _))
   all_goals (simp only[Cj,n01,n02,n03,n12,n13,n23];done)
 (with_reducible repeat' (first|(simp(disch:=omega)only[push_cast,↓zz,seval,Cb,B9,hg,n01,n02,n03,n12,n13,n23])|refine And.intro ?_ ?_|(first|refine Ab ?_ ?_|refine Aa ?_ ?_)<;>intro hc<;>(try simp only[push_cast] at hc)|refine Am ?_|refine eQ T1 ?_|refine eQ P1 ?_|refine eK T1 ?_|refine eK P1 ?_|refine eQ T2 ?_|refine eQ P2 ?_|refine eK T2 ?_|refine eK P2 ?_|refine eQ T3 ?_|refine eQ P3 ?_|refine eK T3 ?_|refine eK P3 ?_|refine eQ T4 ?_|refine eQ P4 ?_|refine eK T4 ?_|refine eK P4 ?_|refine eK hF ?_|refine eK hL ?_|omega|intro _))
 all_goals ((try simp only[*,decide_true,decide_false,Bool.true_and,Bool.false_and]);(repeat' (first|(simp(disch:=omega)only[push_cast,↓zz,seval,B8])|omega|(with_reducible refine And.intro ?_ ?_))))
theorem zj9 (bs dr tk up sm:Int) (p0 p1 p2 p3:Part) (sets:List (List Span)) (hs:B4 sm=true) (hS:Cs [p0,p1,p2,p3] sets) :
   PC Tryz.prog 196 [Cn ⟨bs,dr,tk,up,sm,[p0,p1,p2,p3]⟩,Ao sets] (.tup [Aj (Ba ⟨bs,dr,tk,up,sm,[p0,p1,p2,p3]⟩ sets),.bool (B9 (Ba ⟨bs,dr,tk,up,sm,[p0,p1,p2,p3]⟩ sets))]):=by
 rcases Classical.em (p1.at_=p0.at_) with e1|x01
 · skip
   rcases Classical.em (p2.at_=p0.at_) with e2|x02
   · skip
     rcases Classical.em (p3.at_=p0.at_) with e3|x03
     · skip
       exact z94 bs dr tk up sm p0 p1 p2 p3 sets hs hS e1 e2 e3
     have n03:¬p0.at_=p3.at_:=fun h=>x03 h.symm;exact z95 bs dr tk up sm p0 p1 p2 p3 sets hs hS e1 e2 n03
   have n02:¬p0.at_=p2.at_:=fun h=>x02 h.symm;rcases Classical.em (p3.at_=p0.at_) with e3|x03
   · skip
     exact z96 bs dr tk up sm p0 p1 p2 p3 sets hs hS e1 e3 n02
   have n03:¬p0.at_=p3.at_:=fun h=>x03 h.symm;rcases Classical.em (p3.at_=p2.at_) with e3|x23
   · skip
     exact z97 bs dr tk up sm p0 p1 p2 p3 sets hs hS e1 e3 n02
   have n23:¬p2.at_=p3.at_:=fun h=>x23 h.symm;exact z98 bs dr tk up sm p0 p1 p2 p3 sets hs hS e1 n02 n03 n23
 have n01:¬p0.at_=p1.at_:=fun h=>x01 h.symm;rcases Classical.em (p2.at_=p0.at_) with e2|x02
 · skip
   rcases Classical.em (p3.at_=p0.at_) with e3|x03
   · skip
     exact z99 bs dr tk up sm p0 p1 p2 p3 sets hs hS e2 e3 n01
   have n03:¬p0.at_=p3.at_:=fun h=>x03 h.symm;rcases Classical.em (p3.at_=p1.at_) with e3|x13
   · skip
     exact z9a bs dr tk up sm p0 p1 p2 p3 sets hs hS e2 e3 n01
   have n13:¬p1.at_=p3.at_:=fun h=>x13 h.symm;exact z9b bs dr tk up sm p0 p1 p2 p3 sets hs hS e2 n01 n03 n13
 have n02:¬p0.at_=p2.at_:=fun h=>x02 h.symm;rcases Classical.em (p2.at_=p1.at_) with e2|x12
 · skip
   rcases Classical.em (p3.at_=p0.at_) with e3|x03
   · skip
     exact z9c bs dr tk up sm p0 p1 p2 p3 sets hs hS e2 e3 n01
   have n03:¬p0.at_=p3.at_:=fun h=>x03 h.symm;rcases Classical.em (p3.at_=p1.at_) with e3|x13
   · skip
     exact z9d bs dr tk up sm p0 p1 p2 p3 sets hs hS e2 e3 n01
   have n13:¬p1.at_=p3.at_:=fun h=>x13 h.symm;exact z2h bs dr tk up sm p0 p1 p2 p3 sets hs hS e2 n01 n03 n13
 have n12:¬p1.at_=p2.at_:=fun h=>x12 h.symm;rcases Classical.em (p3.at_=p0.at_) with e3|x03
 · skip
   exact z2i bs dr tk up sm p0 p1 p2 p3 sets hs hS e3 n01 n02 n12
 have n03:¬p0.at_=p3.at_:=fun h=>x03 h.symm;rcases Classical.em (p3.at_=p1.at_) with e3|x13
 · skip
   exact z2j bs dr tk up sm p0 p1 p2 p3 sets hs hS e3 n01 n02 n12
 have n13:¬p1.at_=p3.at_:=fun h=>x13 h.symm;rcases Classical.em (p3.at_=p2.at_) with e3|x23
 · skip
   exact z2k bs dr tk up sm p0 p1 p2 p3 sets hs hS e3 n01 n02 n12
 have n23:¬p2.at_=p3.at_:=fun h=>x23 h.symm;exact z2l bs dr tk up sm p0 p1 p2 p3 sets hs hS n01 n02 n03 n12 n13 n23
theorem z2m (t:Term) (sets:List (List Span)) (hl:t.parts.length≤4) (hs:B4 t.sum=true) (hS:Cs t.parts sets) :
   PC Tryz.prog 196 [Cn t,Ao sets] (.tup [Aj (Ba t sets),.bool (B9 (Ba t sets))]):=by
 obtain⟨bs,dr,tk,up,sm,l⟩:=t
 match l,hl,hS with
 | [],_,hS=>exact zj5 bs dr tk up sm sets hs hS
 | [p0],_,hS=>exact zj6 bs dr tk up sm p0 sets hs hS
 | [p0,p1],_,hS=>exact zj7 bs dr tk up sm p0 p1 sets hs hS
 | [p0,p1,p2],_,hS=>exact zj8 bs dr tk up sm p0 p1 p2 sets hs hS
 | [p0,p1,p2,p3],_,hS=>exact zj9 bs dr tk up sm p0 p1 p2 p3 sets hs hS
 | _::_::_::_::_::_,hl,_=>simp at hl
def midG (gs:List (List Span)) (k:Nat):List (List Span):=(gs.take k).map symI++List.replicate (gs.length-k) []
theorem z62 {gs:List (List Span)} {k:Nat} (h:k≤gs.length):(midG gs k).length=gs.length:=by simp[midG];omega
theorem zja (gs:List (List Span)):midG gs gs.length=gs.map symI:=by simp[midG]
theorem zjb {gs:List (List Span)} {k:Nat} (h:k<gs.length):((midG gs k).map Aj).set k (Aj (symI (nth gs k)))=(midG gs (k+1)).map Aj:=by
 have e:gs.length-k=(gs.length-(k+1))+1:=by omega
 rw[midG,midG,take_at h,e,List.replicate_succ,List.map_append,List.set_append_right _ _ (by simp;omega)];simp[show min k gs.length=k by omega]
theorem zpv {gs:List (List Span)} {k:Nat} (h:k<gs.length):nth (midG gs (k+1)) k=symI (nth gs k):=by
 rw[midG,take_at h,nth,List.getD_eq_getElem?_getD,List.map_append,List.append_assoc,List.getElem?_append_right (by simp;omega)];simp[show min k gs.length=k by omega]
theorem zjc (n:Nat):Ak (List.replicate n AV.nilS)=true:=by
 induction n with
 | zero=>rfl
 | succ n ih=>simp[List.replicate_succ,Ak,AV.pure,ih]
theorem zjd (l:List Grp) (gs:List (List Span)):leSL l (List.replicate gs.length .nilS) ((midG gs 0).map Aj):=by
 simp only[midG,List.take_zero,List.map_nil,List.nil_append,Nat.sub_zero,List.map_replicate];generalize gs.length=n
 induction n with
 | zero=>rfl
 | succ n ih=>exact⟨⟨by decide,rfl⟩,ih⟩
def Nb (gs:List (List Span)) (k:Nat):Bool:=(gs.take k).all fun g=>decide (0<((symI g).length:Int))
theorem zje {gs:List (List Span)} {k:Nat} (h:k<gs.length):Nb gs (k+1)=(Nb gs k&&decide (0<((symI (nth gs k)).length:Int))):=by
 rw[Nb,take_at h,List.all_append];simp[Nb]
def prtB (t:Term) (n:Int):Bool:=t.parts.all fun p=>Do p n
def Ep (t:Term) (gs:List (List Span)):List Span × Bool :=
 if 4<gs.length∨Da t=false then ([],false) else if prtB t gs.length=false then ([],false) else
   if Nb gs gs.length=false then ([],true) else (Ba t (gs.map symI),B9 (Ba t (gs.map symI)))
theorem zu2 {l:List Part} {n:Int} {k:Nat} (h:k<l.length):(l.drop k).all (fun p=>Do p n)=(Do (nth l k) n&&(l.drop (k+1)).all fun p=>Do p n):=by rw[drop_at h,List.all_cons]
theorem Nc {t:Term} {gs:List (List Span)} (h:prtB t gs.length=true) (hg:gs.length≤4):Cs t.parts (gs.map symI) where
 parts p hp:=by
   rw[List.length_map];exact List.all_eq_true.1 h p hp
 syms s hs:=by
   obtain⟨g,_,rfl⟩:=List.mem_map.1 hs;exact Zk g
 many:=by simp;omega
theorem z9e (t:Term) (gs:List (List Span)) (ht:t.parts.length<1000000000000) (hg:∀ g∈gs,g.length≤1000000) (hl:gs.length≤9223372036854775807) :
   PC Tryz.prog 185 [Cn t,Ao gs] (.tup [Aj (Ep t gs).1,.bool (Ep t gs).2]):=by
 have hP:=Ah gs;have hN:=Ja t ht;have hY:=Zl;refine A7 Y8 ?_;unfold N8;by_cases h1:4<gs.length∨Da t=false
 · rw[Ep,if_pos h1]
   (with_reducible repeat' (first|(simp(disch:=omega)only[push_cast,↓zz,seval])|refine And.intro ?_ ?_|(first|refine Ab ?_ ?_|refine Aa ?_ ?_)<;>intro hc<;>(try simp only[push_cast] at hc)|refine eK hN ?_|refine eQ hN ?_|refine eG hN ?_|((first|refine cK hN ?_|refine cQ hN ?_|refine cG hN ?_);(simp(disch:=omega)only[push_cast,↓zz,seval]);(fail_if_success change False))|omega|intro _))
   all_goals first
     | ((repeat' (first|(simp(disch:=omega)only[push_cast,↓zz,seval,B8])|omega|(with_reducible refine And.intro ?_ ?_)));done)
     | (exfalso;rcases h1 with h1|h1<;>first|omega|simp_all)
 have h4:gs.length≤4:=by omega
 have hn:Da t=true:=by simpa using (not_or.1 h1).2
 (with_reducible repeat' (first|(simp(disch:=omega)only[push_cast,↓zz,seval,hn])|refine And.intro ?_ ?_|(first|refine Ab ?_ ?_|refine Aa ?_ ?_)<;>intro hc<;>(try simp only[push_cast] at hc)|refine eK hN ?_|refine eQ hN ?_|refine eG hN ?_|((first|refine cK hN ?_|refine cQ hN ?_|refine cG hN ?_);(simp(disch:=omega)only[push_cast,↓zz,seval,hn]);(fail_if_success change False))|omega|intro _))
 refine Ax (A8 (fun (k:Nat)=>k≤gs.length) (fun k=>gs.length-k)
   (fun k=>[(1,Ao gs),(2,.ptr 0 1 0 0),(6,.bool (Nb gs k)),(7,.ref 1 1 0 gs.length),(23,Ao gs),(24,.int .i64 gs.length),(25,.int .i64 k)]) (fun k=>[⟨6,1,true,[Cn t]⟩,⟨1,1,true,(midG gs k).map Aj⟩]) (fun env _=>[Bm 1 (env 2),Bm 1 (env 7)]) 0 (by simp) ?_ ?_)
 · have e:=zjd
   have hr:Ak (List.replicate gs.length AV.nilS)=true:=zjc gs.length;have hs0:Nb gs 0=true:=rfl;(with_reducible repeat' (first|(simp(disch:=omega)only[push_cast,↓zz,seval,hs0,hP,hr])|refine And.intro ?_ ?_|(first|refine Ab ?_ ?_|refine Aa ?_ ?_)<;>intro hc<;>(try simp only[push_cast] at hc)|omega|intro _))
   all_goals exact e _ gs
 intro k hk;have hml:=z62 hk;have hpm:=Ah (midG gs k);rcases Nat.lt_or_ge k gs.length with hkl|hkl
 · have hM:=Q0 (nth gs k) [⟨0,1114111⟩] (by have:=hg _ (Au hkl);omega) (by simp)
   rw[zj2] at hM;have e1:=zjb hkl;have e2:=zpv hkl;have e3:=zje hkl;have hpm2:=Ah (midG gs (k+1));have hml2:=z62 (gs:=gs) (k:=k+1) (by omega);refine W_T ?_;(with_reducible repeat' (first|(simp(disch:=omega)only[push_cast,↓zz,seval,hP,hpm,hpm2,hml,hml2,e1,e2])|refine And.intro ?_ ?_|(first|refine Ab ?_ ?_|refine Aa ?_ ?_)<;>intro hc<;>(try simp only[push_cast] at hc)|refine eK hY ?_|refine eQ hY ?_|refine eG hY ?_|refine eK hM ?_|refine eQ hM ?_|refine eG hM ?_|((first|refine cK hY ?_|refine cQ hY ?_|refine cG hY ?_|refine cK hM ?_|refine cQ hM ?_|refine cG hM ?_);(simp(disch:=omega)only[push_cast,↓zz,seval,hP,hpm,hpm2,hml,hml2,e1,e2]);(fail_if_success change False))|omega|intro _))
   all_goals
     refine⟨k+1,?_⟩;(with_reducible repeat' (first|(simp(disch:=omega)only[push_cast,↓zz,seval,e3])|refine And.intro ?_ ?_|(first|refine Ab ?_ ?_|refine Aa ?_ ?_)<;>intro hc<;>(try simp only[push_cast] at hc)|omega|intro _))
   all_goals (simp only[*,Bool.true_and,Bool.false_and])
 · obtain rfl:k=gs.length:=by omega
   rw[zja] at *;refine W_T ?_;(with_reducible repeat' (first|(simp(disch:=omega)only[push_cast,↓zz,seval,hP,hpm])|refine And.intro ?_ ?_|(first|refine Ab ?_ ?_|refine Aa ?_ ?_)<;>intro hc<;>(try simp only[push_cast] at hc)|omega|intro _))
   refine Ax (A8 (fun (k:Nat)=>k≤t.parts.length∧prtB t gs.length=(t.parts.drop k).all fun p=>Do p gs.length) (fun k=>t.parts.length-k)
     (fun k=>[(1,Ao gs),(2,.ptr 0 1 0 0),(6,.bool (Nb gs gs.length)),(7,Ao (gs.map symI)),(47,Bg t.parts),(48,.int .i64 t.parts.length),(49,.int .i64 k)]) (fun k=>[⟨6,1,true,[Cn t]⟩]) (fun env _=>[Bm 1 (env 2)]) 0 ⟨by simp,rfl⟩ ?_ ?_)
   · have et:List.take gs.length (gs.map symI)=gs.map symI:=List.take_of_length_le (by simp)
     (with_reducible repeat' (first|(simp(disch:=omega)only[push_cast,↓zz,seval,hP,hpm,et])|refine And.intro ?_ ?_|(first|refine Ab ?_ ?_|refine Aa ?_ ?_)<;>intro hc<;>(try simp only[push_cast] at hc)|omega|intro _))
   rintro k ⟨k1,k2⟩;rcases Nat.lt_or_ge k t.parts.length with hkp|hkp
   · have hR:=Gl (nth t.parts k) gs.length
     rw[zu2 hkp] at k2;refine W_T ?_;(with_reducible repeat' (first|(simp(disch:=omega)only[push_cast,↓zz,seval,hP,hpm])|refine And.intro ?_ ?_|(first|refine Ab ?_ ?_|refine Aa ?_ ?_)<;>intro hc<;>(try simp only[push_cast] at hc)|refine eK hR ?_|refine eQ hR ?_|refine eG hR ?_|((first|refine cK hR ?_|refine cQ hR ?_|refine cG hR ?_);(simp(disch:=omega)only[push_cast,↓zz,seval,hP,hpm]);(fail_if_success change False))|omega|intro _))
     · have hp:prtB t gs.length=false:=by rw[k2];simp[*]
       rw[Ep,if_neg h1,if_pos hp];(repeat' (first|(simp(disch:=omega)only[push_cast,↓zz,seval,B8])|omega|(with_reducible refine And.intro ?_ ?_)))
     · exact⟨k+1,by push_cast,⟨by omega,by rw[k2];simp[*]⟩,by omega⟩
   · rw[List.drop_of_length_le hkp] at k2
     have hp:prtB t gs.length=true:=k2;have hnum:=hn;simp only[Da,Bool.and_eq_true,decide_eq_true_eq] at hnum;have hV:=z2m t (gs.map symI) hnum.2.2 hnum.1.1.2 (Nc hp h4);have hI:Ep t gs=if Nb gs gs.length=false then ([],true) else (Ba t (gs.map symI),B9 (Ba t (gs.map symI))):=by rw[Ep,if_neg h1,if_neg (by simp[hp])]
     refine W_T ?_;(with_reducible repeat' (first|(simp(disch:=omega)only[push_cast,↓zz,seval,hP,hpm])|refine And.intro ?_ ?_|(first|refine Ab ?_ ?_|refine Aa ?_ ?_)<;>intro hc<;>(try simp only[push_cast] at hc)|refine eK hV ?_|refine eQ hV ?_|refine eG hV ?_|((first|refine cK hV ?_|refine cQ hV ?_|refine cG hV ?_);(simp(disch:=omega)only[push_cast,↓zz,seval,hP,hpm]);(fail_if_success change False))|omega|intro _))
     all_goals
       rw[hI]
       first
         | rw[if_pos (by assumption)]
         | rw[if_neg (by simp[*])]
       (repeat' (first|(simp(disch:=omega)only[push_cast,↓zz,seval,B8])|omega|(with_reducible refine And.intro ?_ ?_)))
     all_goals trace_state
def Eq (t:Term) (gs:List (List Span)):List Span × Bool :=
 if (Ep t gs).2=false then ([],false) else if (Ep t gs).1.length=0 then ([],true) else (Om (imgL t.outer (Ep t gs).1) t.base,true)
theorem zdv (t:Term) (gs:List (List Span)) (h:B4 t.sum=true):(Ep t gs).1.length≤2147483649:=by
 unfold Ep
 repeat' split
 all_goals first|(simp;done)|skip
 unfold Ba
 have key:∀ (pl:List Int) (out:List Span),Acc out→Acc (pl.foldl (Bc t.parts (gs.map symI)) out):=fun pl=>by
   induction pl with
   | nil=>exact fun out h=>h
   | cons a pl ih=>exact fun out h=>ih _ (z60 _ _)
 exact (key _ _ (Cx h)).2
theorem z9f (t:Term) (gs:List (List Span)) (ht:t.parts.length<1000000000000) (hg:∀ g∈gs,g.length≤1000000) (hl:gs.length≤9223372036854775807) :
   PC Tryz.prog 167 [Cn t,Ao gs] (.tup [Aj (Eq t gs).1,.bool (Eq t gs).2]):=by
 have hP:=Ah gs;have hI:=z9e t gs ht hg hl;have hO:=Fy t
 have hlen:(Ep t gs).2=true→(Ep t gs).1.length≤2147483649:=fun h=>by
   by_cases hs:B4 t.sum=true
   · exact zdv t gs hs
   · have:Da t=false:=by simp[Da,hs]
     rw[Ep,if_pos (.inr this)] at h;cases h
 refine A7 Y6 ?_;unfold N6;rcases Bool.eq_false_or_eq_true (Ep t gs).2 with h2|h2
 · have hl2:=hlen h2
   have hA:=Wg t.outer (Ep t gs).1;have hM:=T8 t.outer (Ep t gs).1 (by omega);have hV:=zdn (imgL t.outer (Ep t gs).1) t.base (by have:=hA.2;omega);(with_reducible repeat' (first|(simp(disch:=omega)only[push_cast,↓zz,seval,hP,h2])|refine And.intro ?_ ?_|(first|refine Ab ?_ ?_|refine Aa ?_ ?_)<;>intro hc<;>(try simp only[push_cast] at hc)|refine eK hI ?_|refine eQ hI ?_|refine eG hI ?_|refine eK hO ?_|refine eQ hO ?_|refine eG hO ?_|refine eK hM ?_|refine eQ hM ?_|refine eG hM ?_|refine eK hV ?_|refine eQ hV ?_|refine eG hV ?_|((first|refine cK hI ?_|refine cQ hI ?_|refine cG hI ?_|refine cK hO ?_|refine cQ hO ?_|refine cG hO ?_|refine cK hM ?_|refine cQ hM ?_|refine cG hM ?_|refine cK hV ?_|refine cQ hV ?_|refine cG hV ?_);(simp(disch:=omega)only[push_cast,↓zz,seval,hP,h2]);(fail_if_success change False))|omega|intro _))
   all_goals
     rw[Eq,if_neg (by simp[h2])]
     first
       | rw[if_pos (by omega)]
       | rw[if_neg (by omega)]
     (repeat' (first|(simp(disch:=omega)only[push_cast,↓zz,seval,B8])|omega|(with_reducible refine And.intro ?_ ?_)))
 · (with_reducible repeat' (first|(simp(disch:=omega)only[push_cast,↓zz,seval,hP,h2])|refine And.intro ?_ ?_|(first|refine Ab ?_ ?_|refine Aa ?_ ?_)<;>intro hc<;>(try simp only[push_cast] at hc)|refine eK hI ?_|refine eQ hI ?_|refine eG hI ?_|((first|refine cK hI ?_|refine cQ hI ?_|refine cG hI ?_);(simp(disch:=omega)only[push_cast,↓zz,seval,hP,h2]);(fail_if_success change False))|omega|intro _))
   all_goals
     rw[Eq,if_pos h2];(repeat' (first|(simp(disch:=omega)only[push_cast,↓zz,seval,B8])|omega|(with_reducible refine And.intro ?_ ?_)))
def On (t:Term) (i o:Int) (gs:List (List Span)):Bool:=Kc t i o gs.length&&((Eq t gs).2&&decide (It (Eq t gs).1 (domL o)=[]))
theorem zdw (t:Term) (gs:List (List Span)):(Eq t gs).1.length≤2147483649:=by
 unfold Eq
 repeat' split
 all_goals first|(simp;done)|skip
 have h1:=(Wg t.outer (Ep t gs).1).2;have h2:=zj3 (imgL t.outer (Ep t gs).1) t.base;simp only;omega
theorem zdx (s:Int):(domL s).length≤2:=by unfold domL;split<;>(try split)<;>simp
theorem zdy (t:Term) (i o:Int) (gs:List (List Span)) (ht:t.parts.length<1000000000000) (hg:∀ g∈gs,g.length≤1000000) (hl:gs.length≤9223372036854775807) :
   PC Tryz.prog 147 [Cn t,.int .i64 i,.int .i64 o,Ao gs] (.bool (On t i o gs)):=by
 have hP:=Ah gs;have hR:=z8c t i o gs.length ht;have hI:=z9f t gs ht hg hl;have hD:=Dz o;have hW:=Q1 (Eq t gs).1 (domL o) (by have:=zdw t gs;omega) (by have:=zdx o;omega);refine A7 z1i ?_;unfold Ql On;(with_reducible repeat' (first|(simp(disch:=omega)only[push_cast,↓zz,seval,hP])|refine And.intro ?_ ?_|(first|refine Ab ?_ ?_|refine Aa ?_ ?_)<;>intro hc<;>(try simp only[push_cast] at hc)|refine eK hR ?_|refine eQ hR ?_|refine eG hR ?_|refine eK hI ?_|refine eQ hI ?_|refine eG hI ?_|refine eK hD ?_|refine eQ hD ?_|refine eG hD ?_|refine eK hW ?_|refine eQ hW ?_|refine eG hW ?_|((first|refine cK hR ?_|refine cQ hR ?_|refine cG hR ?_|refine cK hI ?_|refine cQ hI ?_|refine cG hI ?_|refine cK hD ?_|refine cQ hD ?_|refine cG hD ?_|refine cK hW ?_|refine cQ hW ?_|refine cG hW ?_);(simp(disch:=omega)only[push_cast,↓zz,seval,hP]);(fail_if_success change False))|omega|intro _))
 all_goals simp only[*,Bool.true_and,Bool.false_and]
def Rf:Int→List Span→Bool
 | _,[]=>true
 | last,s::l=>decide (s.lo≤s.hi∧-1073741824≤s.lo∧s.hi≤1073741824∧last+1<s.lo)&&Rf s.hi l
def Zq (g:List Span):Bool:=Rf (-1073741826) g
theorem z9g (g:List Span) (hl:g.length≤9223372036854775807):PC Tryz.prog 145 [Aj g] (.bool (Zq g)):=by
 refine A7 Y3 ?_;unfold N3;(with_reducible repeat' (first|(simp(disch:=omega)only[push_cast,↓zz,seval])|refine And.intro ?_ ?_|(first|refine Ab ?_ ?_|refine Aa ?_ ?_)<;>intro hc<;>(try simp only[push_cast] at hc)|omega|intro _))
 refine Ax (A8 (fun (s:Nat × Int)=>s.1≤g.length∧Zq g=Rf s.2 (g.drop s.1)∧-1073741826≤s.2∧s.2≤1073741824) (fun s=>g.length-s.1)
   (fun s=>[(3,.int .i64 s.2),(6,Aj g),(7,.int .i64 g.length),(8,.int .i64 s.1)]) (fun s=>[]) (fun _ _=>[]) (0,-1073741826) ⟨by simp,rfl,by simp,by simp⟩ ?_ ?_)
 · (with_reducible repeat' (first|(simp(disch:=omega)only[push_cast,↓zz,seval])|refine And.intro ?_ ?_|(first|refine Ab ?_ ?_|refine Aa ?_ ?_)<;>intro hc<;>(try simp only[push_cast] at hc)|omega|intro _))
 rintro⟨k,last⟩ ⟨h1,h2,h3,h4⟩;simp only at h1 h2 h3 h4;rcases Nat.lt_or_ge k g.length with hk|hk
 · rw[drop_at hk,Rf] at h2
   generalize hxe:nth g k=x at *;have hw:IntKind.i64.wrap (last+1)=last+1:=IntWalk.i64_in _ (by omega);refine W_T ?_;(with_reducible repeat' (first|(simp(disch:=omega)only[push_cast,↓zz,seval,hw,hxe])|refine And.intro ?_ ?_|(first|refine Ab ?_ ?_|refine Aa ?_ ?_)<;>intro hc<;>(try simp only[push_cast] at hc)|omega|intro _))
   all_goals first
     | (rw[h2,decide_eq_false (by omega),Bool.false_and];done)
     | exact⟨(k+1,x.hi),⟨rfl,by push_cast⟩,⟨by simp only;omega,by rw[h2,decide_eq_true (by omega),Bool.true_and],by simp only;omega,by simp only;omega⟩,by simp only;omega⟩
 · rw[List.drop_of_length_le hk,Rf] at h2
   refine W_T ?_;(with_reducible repeat' (first|(simp(disch:=omega)only[push_cast,↓zz,seval,h2])|refine And.intro ?_ ?_|(first|refine Ab ?_ ?_|refine Aa ?_ ?_)<;>intro hc<;>(try simp only[push_cast] at hc)|omega|intro _))
   all_goals trace_state
def Rh (i:Int) (g:List Span):Bool:=!decide ((g.length:Int)=0)&&(decide ((g.length:Int)≤64)&&(Zq g&&decide (It g (domL i)=[])))
def Er (i:Int) (gs:List (List Span)):Bool:=decide ((gs.length:Int)≤4)&&gs.all (Rh i)
theorem Ri (i:Int) (gs:List (List Span)):PC Tryz.prog 120 [.int .i64 i,Ao gs] (.bool (Er i gs)):=by
 have hP:=Ah gs;have hD:=Dz i;have hdl:=zdx i;refine A7 Vt ?_;unfold Ly;by_cases h4:4<gs.length
 · rw[Er,decide_eq_false (by omega),Bool.false_and]
   (with_reducible repeat' (first|(simp(disch:=omega)only[push_cast,↓zz,seval])|refine And.intro ?_ ?_|(first|refine Ab ?_ ?_|refine Aa ?_ ?_)<;>intro hc<;>(try simp only[push_cast] at hc)|omega|intro _))
 rw[Er,decide_eq_true (by omega),Bool.true_and];(with_reducible repeat' (first|(simp(disch:=omega)only[push_cast,↓zz,seval])|refine And.intro ?_ ?_|(first|refine Ab ?_ ?_|refine Aa ?_ ?_)<;>intro hc<;>(try simp only[push_cast] at hc)|refine eK hD ?_|refine eQ hD ?_|refine eG hD ?_|((first|refine cK hD ?_|refine cQ hD ?_|refine cG hD ?_);(simp(disch:=omega)only[push_cast,↓zz,seval]);(fail_if_success change False))|omega|intro _))
 refine Ax (A8 (fun (k:Nat)=>k≤gs.length∧gs.all (Rh i)=(gs.drop k).all (Rh i)) (fun k=>gs.length-k)
   (fun k=>[(5,Aj (domL i)),(13,Ao gs),(14,.int .i64 gs.length),(15,.int .i64 k)]) (fun s=>[]) (fun _ _=>[]) 0 ⟨by simp,rfl⟩ ?_ ?_)
 · (with_reducible repeat' (first|(simp(disch:=omega)only[push_cast,↓zz,seval,hP])|refine And.intro ?_ ?_|(first|refine Ab ?_ ?_|refine Aa ?_ ?_)<;>intro hc<;>(try simp only[push_cast] at hc)|omega|intro _))
 rintro k ⟨h1,h2⟩;rcases Nat.lt_or_ge k gs.length with hk|hk
 · rw[drop_at hk,List.all_cons,Rh] at h2
   generalize hge:nth gs k=g at *;refine W_T ?_;by_cases hl:(g.length:Int)=0
   · rw[decide_eq_true hl,Bool.not_true,Bool.false_and,Bool.false_and] at h2
     (with_reducible repeat' (first|(simp(disch:=omega)only[push_cast,↓zz,seval,hP,hge,h2])|refine And.intro ?_ ?_|(first|refine Ab ?_ ?_|refine Aa ?_ ?_)<;>intro hc<;>(try simp only[push_cast] at hc)|omega|intro _))
   by_cases hl2:(g.length:Int)≤64
   · rw[decide_eq_false hl,decide_eq_true hl2,Bool.not_false,Bool.true_and,Bool.true_and] at h2
     have hW:=Q1 g (domL i) (by omega) (by omega);have hC:=z9g g (by omega);(with_reducible repeat' (first|(simp(disch:=omega)only[push_cast,↓zz,seval,hP,hge])|refine And.intro ?_ ?_|(first|refine Ab ?_ ?_|refine Aa ?_ ?_)<;>intro hc<;>(try simp only[push_cast] at hc)|refine eK hC ?_|refine eQ hC ?_|refine eG hC ?_|refine eK hW ?_|refine eQ hW ?_|refine eG hW ?_|((first|refine cK hC ?_|refine cQ hC ?_|refine cG hC ?_|refine cK hW ?_|refine cQ hW ?_|refine cG hW ?_);(simp(disch:=omega)only[push_cast,↓zz,seval,hP,hge]);(fail_if_success change False))|omega|intro _))
     all_goals first
       | (rw[h2];simp[*];done)
       | exact⟨k+1,by push_cast,⟨by omega,by rw[h2];simp[*]⟩,by omega⟩
   · rw[decide_eq_false hl2,Bool.false_and,Bool.and_false,Bool.false_and] at h2
     (with_reducible repeat' (first|(simp(disch:=omega)only[push_cast,↓zz,seval,hP,hge,h2])|refine And.intro ?_ ?_|(first|refine Ab ?_ ?_|refine Aa ?_ ?_)<;>intro hc<;>(try simp only[push_cast] at hc)|omega|intro _))
 · rw[List.drop_of_length_le hk,List.all_nil] at h2
   refine W_T ?_;(with_reducible repeat' (first|(simp(disch:=omega)only[push_cast,↓zz,seval,hP,h2])|refine And.intro ?_ ?_|(first|refine Ab ?_ ?_|refine Aa ?_ ?_)<;>intro hc<;>(try simp only[push_cast] at hc)|omega|intro _))
   all_goals trace_state
def Hw (d:Desc) (s:Int):Bool:=decide (0≤s)&&decide (s<d.states)
theorem Jy (d:Desc) (s:Int):PC Tryz.prog 119 [B2 d,.int .i64 s] (.bool (Hw d s)):=by
 refine A7 Yx ?_;unfold Ny Hw;(with_reducible repeat' (first|(simp(disch:=omega)only[push_cast,↓zz,seval])|refine And.intro ?_ ?_|(first|refine Ab ?_ ?_|refine Aa ?_ ?_)<;>intro hc<;>(try simp only[push_cast] at hc)|omega|intro _))
 all_goals simp only[*,decide_true,decide_false,Bool.true_and,Bool.false_and]
def Nf (d:Desc):Bool:=decide (0<((domL d.in_).length:Int))&&(decide (0<((domL d.out).length:Int))&&(decide (1≤d.states)&&(decide (d.states≤1024)&&(Hw d d.start&&(decide ((d.rules.length:Int)≤4096)&&decide ((d.finals.length:Int)≤4096))))))
theorem zdz (d:Desc):PC Tryz.prog 117 [B2 d] (.bool (Nf d)):=by
 have h1:=Dz d.in_;have h2:=Dz d.out;have h3:=Jy d d.start;refine A7 z1g ?_;unfold Qi Nf;(with_reducible repeat' (first|(simp(disch:=omega)only[push_cast,↓zz,seval])|refine And.intro ?_ ?_|(first|refine Ab ?_ ?_|refine Aa ?_ ?_)<;>intro hc<;>(try simp only[push_cast] at hc)|refine eK h1 ?_|refine eQ h1 ?_|refine eG h1 ?_|refine eK h2 ?_|refine eQ h2 ?_|refine eG h2 ?_|refine eK h3 ?_|refine eQ h3 ?_|refine eG h3 ?_|((first|refine cK h1 ?_|refine cQ h1 ?_|refine cG h1 ?_|refine cK h2 ?_|refine cQ h2 ?_|refine cG h2 ?_|refine cK h3 ?_|refine cQ h3 ?_|refine cG h3 ?_);(simp(disch:=omega)only[push_cast,↓zz,seval]);(fail_if_success change False))|omega|intro _))
 all_goals simp only[*,decide_true,decide_false,Bool.true_and,Bool.false_and]
 all_goals trace_state
def Fi (d:Desc) (out:List Term) (gs:List (List Span)):Bool:=decide ((out.length:Int)≤64)&&out.all fun t=>On t d.in_ d.out gs
theorem Rj (d:Desc) (out:List Term) (gs:List (List Span)) (ho:∀ t∈out,t.parts.length<1000000000000) (hg:∀ g∈gs,g.length≤1000000) (hl:gs.length≤9223372036854775807) :
   PC Tryz.prog 121 [B2 d,Ea out,Ao gs] (.bool (Fi d out gs)):=by
 have hP:=Ah gs;have hT:=Bl out;refine A7 Vu ?_;unfold Lz;by_cases h4:64<out.length
 · rw[Fi,decide_eq_false (by omega),Bool.false_and]
   (with_reducible repeat' (first|(simp(disch:=omega)only[push_cast,↓zz,seval])|refine And.intro ?_ ?_|(first|refine Ab ?_ ?_|refine Aa ?_ ?_)<;>intro hc<;>(try simp only[push_cast] at hc)|omega|intro _))
 rw[Fi,decide_eq_true (by omega),Bool.true_and];(with_reducible repeat' (first|(simp(disch:=omega)only[push_cast,↓zz,seval])|refine And.intro ?_ ?_|(first|refine Ab ?_ ?_|refine Aa ?_ ?_)<;>intro hc<;>(try simp only[push_cast] at hc)|omega|intro _))
 refine Ax (A8 (fun (k:Nat)=>k≤out.length∧(out.all fun t=>On t d.in_ d.out gs)=(out.drop k).all fun t=>On t d.in_ d.out gs) (fun k=>out.length-k)
   (fun k=>[(2,Ao gs),(3,.ptr 0 1 0 0),(12,Ea out),(13,.int .i64 out.length),(14,.int .i64 k)]) (fun s=>[⟨6,1,true,[B2 d]⟩]) (fun env _=>[Bm 1 (env 3)]) 0 ⟨by simp,rfl⟩ ?_ ?_)
 · (with_reducible repeat' (first|(simp(disch:=omega)only[push_cast,↓zz,seval,hP,hT])|refine And.intro ?_ ?_|(first|refine Ab ?_ ?_|refine Aa ?_ ?_)<;>intro hc<;>(try simp only[push_cast] at hc)|omega|intro _))
 rintro k ⟨h1,h2⟩;rcases Nat.lt_or_ge k out.length with hk|hk
 · rw[drop_at hk,List.all_cons] at h2
   have hF:=zdy (nth out k) d.in_ d.out gs (ho _ (Au hk)) hg hl;refine W_T ?_;(with_reducible repeat' (first|(simp(disch:=omega)only[push_cast,↓zz,seval,hP,hT])|refine And.intro ?_ ?_|(first|refine Ab ?_ ?_|refine Aa ?_ ?_)<;>intro hc<;>(try simp only[push_cast] at hc)|refine eK hF ?_|refine eQ hF ?_|refine eG hF ?_|((first|refine cK hF ?_|refine cQ hF ?_|refine cG hF ?_);(simp(disch:=omega)only[push_cast,↓zz,seval,hP,hT]);(fail_if_success change False))|omega|intro _))
   all_goals first
     | (rw[h2];simp[*];done)
     | exact⟨k+1,by push_cast,⟨by omega,by rw[h2];simp[*]⟩,by omega⟩
 · rw[List.drop_of_length_le hk,List.all_nil] at h2
   refine W_T ?_;(with_reducible repeat' (first|(simp(disch:=omega)only[push_cast,↓zz,seval,hP,hT,h2])|refine And.intro ?_ ?_|(first|refine Ab ?_ ?_|refine Aa ?_ ?_)<;>intro hc<;>(try simp only[push_cast] at hc)|omega|intro _))
   all_goals trace_state
def eatB (n e:Int):Bool:=!decide (e<min n 1)&&!decide (n<e)
def Gy (d:Desc) (r:Rule):Bool:=Hw d r.from_&&(Hw d r.to_&&(Er d.in_ r.guards&&(eatB r.guards.length r.eat&&Fi d r.out r.guards)))
theorem E4 {i:Int} {gs:List (List Span)} (h:Er i gs=true):gs.length≤4∧∀ g∈gs,g.length≤64:=by
 simp only[Er,Bool.and_eq_true,decide_eq_true_eq] at h;refine⟨by omega,fun g hg=>?_⟩;have:=List.all_eq_true.1 h.2 g hg;simp only[Rh,Bool.and_eq_true,decide_eq_true_eq] at this;omega
theorem ze0 (d:Desc) (r:Rule) (ho:∀ t∈r.out,t.parts.length<1000000000000):PC Tryz.prog 118 [B2 d,Se r] (.bool (Gy d r)):=by
 have h1:=Jy d r.from_;have h2:=Jy d r.to_;have h3:=Ri d.in_ r.guards;have hP:=Ah r.guards;have hT:=Bl r.out;refine A7 z1h ?_;unfold Qj Gy eatB;cases hg:Er d.in_ r.guards with
 | false =>
   rw[hg] at h3;(with_reducible repeat' (first|(simp(disch:=omega)only[push_cast,↓zz,seval,hP,hT])|refine And.intro ?_ ?_|(first|refine Ab ?_ ?_|refine Aa ?_ ?_)<;>intro hc<;>(try simp only[push_cast] at hc)|refine eK h1 ?_|refine eQ h1 ?_|refine eG h1 ?_|refine eK h2 ?_|refine eQ h2 ?_|refine eG h2 ?_|refine eK h3 ?_|refine eQ h3 ?_|refine eG h3 ?_|((first|refine cK h1 ?_|refine cQ h1 ?_|refine cG h1 ?_|refine cK h2 ?_|refine cQ h2 ?_|refine cG h2 ?_|refine cK h3 ?_|refine cQ h3 ?_|refine cG h3 ?_);(simp(disch:=omega)only[push_cast,↓zz,seval,hP,hT]);(fail_if_success change False))|omega|intro _))
   all_goals simp only[*,decide_true,decide_false,Bool.true_and,Bool.false_and,Bool.and_false]
 | true =>
   rw[hg] at h3;obtain⟨g1,g2⟩:=E4 hg;have h4:=Rj d r.out r.guards ho (fun g hg=>by have:=g2 g hg;omega) (by omega);(with_reducible repeat' (first|(simp(disch:=omega)only[push_cast,↓zz,seval,hP,hT])|refine And.intro ?_ ?_|(first|refine Ab ?_ ?_|refine Aa ?_ ?_)<;>intro hc<;>(try simp only[push_cast] at hc)|refine eK h1 ?_|refine eQ h1 ?_|refine eG h1 ?_|refine eK h2 ?_|refine eQ h2 ?_|refine eG h2 ?_|refine eK h3 ?_|refine eQ h3 ?_|refine eG h3 ?_|refine eK h4 ?_|refine eQ h4 ?_|refine eG h4 ?_|((first|refine cK h1 ?_|refine cQ h1 ?_|refine cG h1 ?_|refine cK h2 ?_|refine cQ h2 ?_|refine cG h2 ?_|refine cK h3 ?_|refine cQ h3 ?_|refine cG h3 ?_|refine cK h4 ?_|refine cQ h4 ?_|refine cG h4 ?_);(simp(disch:=omega)only[push_cast,↓zz,seval,hP,hT]);(fail_if_success change False))|omega|intro _))
   all_goals simp only[*,decide_true,decide_false,Bool.true_and,Bool.false_and,Bool.and_false,Bool.not_true,Bool.not_false,Bool.and_true]
   all_goals trace_state
abbrev z2n (v:Nat) (l:List Int):Grp:=⟨1,v,l.isEmpty,l.map (AV.int .i64)⟩
def famF (n:Nat) (V:Nat→Nat) (D:Nat→List Int):List Grp:=(List.range n).map fun i=>z2n (V i) (D i)
def famT (n:Nat) (V:Nat→Nat) (D:Nat→List Int):List AV:=(List.range n).map fun i=>AV.ref (i+3) (V i) 0 (D i).length
def famI (n:Nat) (f:Nat→Int):List AV:=(List.range n).map fun i=>AV.int .i64 (f i)
theorem Db {α:Type} {n i:Nat} {f:Nat→α} {x:α} (h:i<n):((List.range n).map f).set i x=(List.range n).map fun j=>if j=i then x else f j:=by
 refine List.ext_getElem (by simp) fun j h1 h2=>?_;simp only[List.length_set,List.length_map,List.length_range] at h1;simp only[List.getElem_set,List.getElem_map,List.getElem_range];by_cases e:i=j
 · rw[if_pos e,if_pos e.symm]
 · rw[if_neg e,if_neg fun h=>e h.symm]
theorem Ca {α:Type} {n i:Nat} {f:Nat→α} {z:α} (h:i<n):((List.range n).map f).getD i z=f i:=by simp[List.getD,h]
theorem K3 {ks:List Nat} {G:Grp}:∀ {l:List Grp} {p i:Nat},p+i∈ks→Cd p ks l (l.set i G)
 | [],p,i,h=>trivial
 | a::l,p,0,h=>⟨.inl h,sameBut_refl⟩
 | a::l,p,i+1,h=>⟨.inr rfl,K3 (by rwa [show p+1+i=p+(i+1) by omega])⟩
where sameBut_refl {ks:List Nat}:∀ {l:List Grp} {p:Nat},Cd p ks l l
 | [],p=>trivial
 | a::l,p=>⟨.inr rfl,sameBut_refl⟩
theorem z63:∀ (l:List Grp) (G G':Grp),setQ (l++[G]) l.length G'=some (l++[G'])
 | [],_,_=>rfl
 | a::l,G,G'=>by rw[List.cons_append,List.length_cons,setQ,z63 l G G'];rfl
theorem z64:∀ (l:List Grp) (G G':Grp) {i:Nat},i<l.length→setQ (l++[G]) i G'=some (l.set i G'++[G])
 | [],_,_,i,h=>by simp at h
 | a::l,G,G',0,h=>rfl
 | a::l,G,G',i+1,h=>by rw[List.cons_append,setQ,z64 l G G' (by simpa using h)];rfl
def setV (V:Nat→Nat) (i v:Nat) (j:Nat):Nat:=if j=i then v else V j
structure CycOk (d:Desc):Prop where
 st:1≤d.states∧d.states≤1024
 len:d.rules.length≤4096
 rul:∀ r∈d.rules,(0≤r.from_∧r.from_<d.states)∧0≤r.to_∧r.to_<d.states
def Rk (d:Desc) (k:Nat):Env:=De [(1,.ptr 0 1 0 0),(3,.ref 1 1 0 d.states.toNat),(4,.ref 2 1 0 d.states.toNat),(21,Cz d.rules),(22,.int .i64 d.rules.length),(23,.int .i64 k)]
def C6 (d:Desc) (k:Nat) (V:Nat→Nat):Ac:=Abs.hl (⟨6,1,true,[B2 d]⟩::⟨1,1,true,famT d.states.toNat V (toD (d.rules.take k))⟩::⟨1,1,true,famI d.states.toNat (inD (d.rules.take k))⟩::famF d.states.toNat V (toD (d.rules.take k)))
def cycL (d:Desc) (k:Nat) (V:Nat→Nat):List Grp:=⟨6,1,true,[B2 d]⟩::⟨1,1,true,famT d.states.toNat V (toD (d.rules.take k))⟩::⟨1,1,true,famI d.states.toNat (inD (d.rules.take k))⟩::famF d.states.toNat V (toD (d.rules.take k))
theorem T9 (d:Desc) (k:Nat) (V:Nat→Nat):C6 d k V=Abs.hl (cycL d k V):=rfl
theorem Wh (d:Desc) (k:Nat) (V:Nat→Nat):(cycL d k V).length=d.states.toNat+3:=by simp[cycL,famF]
theorem Hx (d:Desc):(B2 d).pure=true:=by simp[B2,AV.pure,Ak,Az,As]
theorem z2o (d:Desc) (k:Nat) (V:Nat→Nat):∀ G∈cycL d k V,ltL (cycL d k V).length G.xs:=fun G hG=>by
 rw[Wh];simp only[cycL,List.mem_cons] at hG;rcases hG with rfl|rfl|rfl|hG
 · exact Cc _ _ (by simp[Ak,Hx])
 · have key:∀ (l:List Nat),(∀ i∈l,i<d.states.toNat)→ltL (d.states.toNat+3) (l.map fun i=>AV.ref (i+3) (V i) 0 (toD (d.rules.take k) i).length):=fun l=>by
     induction l with
     | nil=>exact fun _=>trivial
     | cons i l ih =>
       intro h;exact⟨by have:=h i (by simp);show i+3<_;omega,ih fun j hj=>h j (by simp[hj])⟩
   exact key _ fun i hi=>by simpa using hi
 · exact Cc _ _ (Bn.2 fun x hx=>by
     obtain⟨i,_,rfl⟩:=List.mem_map.1 hx
     rfl)
 · obtain⟨i,_,rfl⟩:=List.mem_map.1 hG
   exact Cc _ _ (Ay .i64 _)
theorem ze1 {d:Desc} {k:Nat} {V:Nat→Nat} {env:Env} {l gar:List Grp} (hn:1≤d.states) (hl':l=cycL d k V++gar)
   (h1:env 1=.ptr 0 1 0 0) (h3:env 3=.ref 1 1 0 d.states.toNat) (h4:env 4=.ref 2 1 0 d.states.toNat) (h21:env 21=Cz d.rules) (h22:env 22=.int .i64 d.rules.length) (h23:env 23=.int .i64 k) :
   Ent 105 0 env (Abs.hl l) (Rk d k) (C6 d k V):=by
 rw[hl',T9];refine (Oz [(1,.ptr 0 1 0 0),(3,.ref 1 1 0 d.states.toNat),(4,.ref 2 1 0 d.states.toNat),(21,Cz d.rules),(22,.int .i64 d.rules.length),(23,.int .i64 k)] (fun p hp=>?_)).trans (P8 (by omega) (z2o d k V) fun i _=>?_)
 · simp only[List.mem_cons,List.not_mem_nil,or_false] at hp
   rcases hp with rfl|rfl|rfl|rfl|rfl|rfl<;>assumption
 · rw[Wh]
   have hr:ltV (d.states.toNat+3) (Cz d.rules):=Bv _ _ (by simp[Cz,AV.pure,Az]);simp only[De]
   repeat' split
   all_goals first
     | exact hr
     | trivial
     | (show _<_;omega)
theorem zjf {n i:Nat} {V:Nat→Nat} {D:Nat→List Int} {x:Int} (h:i<n):(famT n V D).set i (.ref (i+3) (V i+1) 0 ((D i).length+1))=famT n (setV V i (V i+1)) fun p=>if p=i then D i++[x] else D p:=by
 rw[famT,Db h,famT];refine List.map_congr_left fun j _=>?_;by_cases e:j=i
 · subst e;simp[setV]
 · simp[setV,e]
theorem zjg {n i:Nat} {V:Nat→Nat} {D:Nat→List Int} {x:Int} (h:i<n):(famF n V D).set i ⟨1,V i+1,false,(D i).map (AV.int .i64)++[.int .i64 x]⟩=famF n (setV V i (V i+1)) fun p=>if p=i then D i++[x] else D p:=by
 rw[famF,Db h,famF];refine List.map_congr_left fun j _=>?_;by_cases e:j=i
 · subst e;simp[setV,z2n]
 · simp[setV,e]
theorem z65 {n j:Nat} {f:Nat→Int} {x:Int} (h:j<n):(famI n f).set j (.int .i64 x)=famI n fun p=>if p=j then x else f p:=by
 rw[famI,Db h,famI];refine List.map_congr_left fun p _=>?_;by_cases e:p=j
 · subst e;simp
 · simp[e]
theorem zjh {l:List Rule} {k i:Nat} (hk:k<l.length) (hi:(nth l k).from_=i) (he:Cr (nth l k)=true):toD (l.take (k+1))=fun p=>if p=i then toD (l.take k) i++[(nth l k).to_] else toD (l.take k) p:=by
 funext p;rw[take_at hk];simp only[toD,List.filter_append,List.map_append,List.filter_cons,List.filter_nil,he,Bool.true_and,hi,decide_eq_true_eq];by_cases e:p=i
 · subst e;simp
 · rw[if_neg (by omega),if_neg e];simp
theorem zji {l:List Rule} {k j:Nat} (hk:k<l.length) (hj:(nth l k).to_=j) (he:Cr (nth l k)=true):inD (l.take (k+1))=fun p=>if p=j then inD (l.take k) j+1 else inD (l.take k) p:=by
 funext p;rw[take_at hk];simp only[inD,List.filter_append,List.length_append,List.filter_cons,List.filter_nil,he,Bool.true_and,hj,decide_eq_true_eq];by_cases e:p=j
 · subst e;simp
 · rw[if_neg (by omega),if_neg e];simp
theorem zjj {l:List Rule} {k:Nat} (hk:k<l.length) (he:Cr (nth l k)=false):toD (l.take (k+1))=toD (l.take k)∧inD (l.take (k+1))=inD (l.take k):=by
 rw[take_at hk];refine⟨?_,?_⟩<;>funext p<;>simp[toD,inD,he]
theorem ze2 (l:List Rule) (j:Nat):0≤inD l j∧inD l j≤l.length:=by
 have:=List.length_filter_le (fun r=>Cr r&&decide (r.to_=j)) l;simp only[inD];omega
theorem zlk (l:List Rule) (j:Nat):(toD l j).length≤l.length:=by
 have:=List.length_filter_le (fun r=>Cr r&&decide (r.from_=j)) l;simp only[toD,List.length_map];omega
theorem K4 (l0:List Grp):∀ l:List Grp,Hi l0 l l
 | []=>trivial
 | G::l=>⟨⟨rfl,rfl,id,Bf _ _⟩,K4 l0 l⟩
theorem zjk (n:Nat):famF n (fun _=>1) (toD [])=(List.replicate n 1).map Iu:=by
 rw[List.map_replicate];refine List.ext_getElem (by simp[famF]) fun i h1 h2=>?_;simp only[famF,List.getElem_map,List.getElem_range,List.getElem_replicate];rfl
theorem zjl (n:Nat):famI n (inD [])=List.replicate n (.int .i64 0):=by
 refine List.ext_getElem (by simp[famI]) fun i h1 h2=>?_;simp[famI,inD]
theorem ze3 {l:List Grp} {n:Nat} (h:∀ i,i<n→l.getD (i+3) default=Iu 1∧i+3<l.length):leSL l (List.replicate n .nilS) (famT n (fun _=>1) (toD [])):=by
 have key:∀ idx:List Nat,(∀ i∈idx,i<n)→leSL l (List.replicate idx.length .nilS) (idx.map fun i=>AV.ref (i+3) 1 0 (toD [] i).length):=fun idx=>by
   induction idx with
   | nil=>exact fun _=>rfl
   | cons i idx ih =>
     intro hi;obtain⟨h1,h2⟩:=h i (hi i (by simp));refine⟨?_,ih fun j hj=>hi j (by simp[hj])⟩;show 0=0∧(toD [] i).length=0∧(l.getD (i+3) default).ver=1∧0<(l.getD (i+3) default).w∧(l.getD (i+3) default).xs=[]∧(l.getD (i+3) default).exact=true∧i+3<l.length;rw[h1];exact⟨rfl,rfl,rfl,by decide,rfl,rfl,h2⟩
 have:=key (List.range n) fun i hi=>by simpa using hi
 rwa [List.length_range] at this
theorem ze4 {d:Desc} {env:Env} (h1:env 1=.ptr 0 1 0 0) (h3:env 3=.ref 1 1 0 d.states.toNat) (h4:env 4=.ref 2 1 0 d.states.toNat) (h21:env 21=Cz d.rules) (h22:env 22=.int .i64 d.rules.length) (h23:env 23=.int .i64 0) :
   Ent 105 0 env (Abs.hl [⟨6,1,true,[B2 d]⟩,⟨1,1,true,List.replicate d.states.toNat .nilS⟩,⟨1,1,true,List.replicate d.states.toNat (.int .i64 0)⟩]) (Rk d 0) (C6 d 0 fun _=>1):=by
 refine (Oz [(1,.ptr 0 1 0 0),(3,.ref 1 1 0 d.states.toNat),(4,.ref 2 1 0 d.states.toNat),(21,Cz d.rules),(22,.int .i64 d.rules.length),(23,.int .i64 0)] (fun p hp=>?_)).trans
   ((z5j (List.replicate d.states.toNat 1) (fun w hw=>by have:=(List.mem_replicate.1 hw).2;omega)).trans (zcn ?_ fun i _=>Lm _ _))
 · simp only[List.mem_cons,List.not_mem_nil,or_false] at hp
   rcases hp with rfl|rfl|rfl|rfl|rfl|rfl<;>assumption
 · rw[List.take_zero,zjk,zjl]
   refine⟨⟨rfl,rfl,id,Bf _ _⟩,⟨rfl,rfl,id,ze3 fun i hi=>?_⟩,⟨rfl,rfl,id,Bf _ _⟩,K4 _ _⟩;refine⟨?_,by simp;omega⟩;rw[List.map_replicate];simp[List.getD,hi]
def ze5 (n:Nat) (D:Nat→List Int):AV:=.lst 1 ((List.range n).map fun i=>Sd (D i))
theorem Zr {n b:Nat} {env:Env} {H H':Ac} (hn:H'.n=H.n) (h:∀ g,g<H.n→H'.at_ g=H.at_ g):Ent n b env H env H':=fun S val hb hS hv=>⟨S,rfl,.refl hb,hS.congr hn h,hv⟩
def Mc (n:Nat):List Nat:=1::(List.range n).map (·+3)
theorem Zs {n i:Nat} (h:i<n):i+3∈Mc n:=List.mem_cons.2 (.inr (List.mem_map.2 ⟨i,List.mem_range.2 h,rfl⟩))
theorem zll (d:Desc) (k:Nat) (V:Nat→Nat) {i:Nat} (hi:i<d.states.toNat):(C6 d k V).at_ (i+3)=z2n (V i) (toD (d.rules.take k) i):=by
 rw[C6,Cy];simp only[List.getD_cons_succ];exact Ca hi
theorem zpw (d:Desc) (k:Nat) (V:Nat→Nat):Cp 2 ((C6 d k V).only (Mc d.states.toNat)) (.ref 1 1 0 d.states.toNat)∧frzV 2 ((C6 d k V).only (Mc d.states.toNat)) (.ref 1 1 0 d.states.toNat)=ze5 d.states.toNat (toD (d.rules.take k)):=by
 have hat1:((C6 d k V).only (Mc d.states.toNat)).at_ 1=⟨1,1,true,famT d.states.toNat V (toD (d.rules.take k))⟩:=by
   show (if 1∈Mc d.states.toNat then (C6 d k V).at_ 1 else ((C6 d k V).at_ 1).dead)=_;rw[if_pos (by simp[Mc])];rfl
 have hat:∀ i,i<d.states.toNat→((C6 d k V).only (Mc d.states.toNat)).at_ (i+3)=z2n (V i) (toD (d.rules.take k) i):=fun i hi=>by
   show (if i+3∈Mc d.states.toNat then (C6 d k V).at_ (i+3) else ((C6 d k V).at_ (i+3)).dead)=_;rw[if_pos (Zs hi)];exact zll d k V hi
 have htl:(((famT d.states.toNat V (toD (d.rules.take k))).drop 0).take d.states.toNat)=famT d.states.toNat V (toD (d.rules.take k)):=by
   rw[List.drop_zero];exact List.take_of_length_le (by simp[famT])
 constructor
 · refine⟨by rw[hat1],by rw[hat1];exact Nat.one_pos,by rw[hat1];simp[famT],fun y hy=>?_⟩
   rw[hat1,htl] at hy;obtain⟨i,hi,rfl⟩:=List.mem_map.1 hy;have hi':i<d.states.toNat:=by simpa using hi
   refine⟨by rw[hat i hi'],by rw[hat i hi'];exact Nat.one_pos,by rw[hat i hi'];simp,fun z hz=>?_⟩;rw[hat i hi'] at hz;obtain⟨u,_,rfl⟩:=List.mem_map.1 (List.mem_of_mem_drop (List.mem_of_mem_take hz));rfl
 · show AV.lst _ _=_
   rw[hat1,htl,ze5,famT,List.map_map];congr 1;refine List.map_congr_left fun i hi=>?_;have hi':i<d.states.toNat:=by simpa using hi
   show AV.lst _ _=_;rw[hat i hi']
   have e:(((z2n (V i) (toD (d.rules.take k) i)).xs.drop 0).take (toD (d.rules.take k) i).length).map (frzV 0 ((C6 d k V).only (Mc d.states.toNat)))=(toD (d.rules.take k) i).map (AV.int .i64):=by
     rw[List.drop_zero,List.take_of_length_le (by simp[z2n])];refine (List.map_congr_left fun x hx=>?_).trans (List.map_id _);obtain⟨u,_,rfl⟩:=List.mem_map.1 hx;rfl
   rw[e]
def Jz (d:Desc) (k:Nat):List (Nat × AV):=[(1,.ptr 0 1 0 0),(3,ze5 d.states.toNat (toD (d.rules.take k))),(4,.ref 2 1 0 d.states.toNat),(7,.nilS),(52,.ref 2 1 0 d.states.toNat),(53,.int .i64 d.states.toNat),(54,.int .i64 0)]
theorem z9h {d:Desc} {k:Nat} {V:Nat→Nat} {env:Env} (h1:env 1=.ptr 0 1 0 0) (h3:env 3=.ref 1 1 0 d.states.toNat) (h4:env 4=.ref 2 1 0 d.states.toNat) (h7:env 7=.nilS) (h52:env 52=.ref 2 1 0 d.states.toNat) (h53:env 53=.int .i64 d.states.toNat) (h54:env 54=.int .i64 0) :
   Ent 105 0 env (C6 d k V) (De (Jz d k)) (Abs.hl [⟨6,1,true,[B2 d]⟩,⟨0,2,false,[]⟩,⟨1,1,true,famI d.states.toNat (inD (d.rules.take k))⟩]):=by
 obtain⟨f1,f2⟩:=zpw d k V;rw[←h3] at f1 f2;refine (zco 3 2 (Mc d.states.toNat) f1).trans ((Oz (Jz d k) fun p hp=>?_).trans ((Zr (H':=Abs.hl ([⟨6,1,true,[B2 d]⟩,⟨0,2,false,[]⟩,⟨1,1,true,famI d.states.toNat (inD (d.rules.take k))⟩]++(famF d.states.toNat V (toD (d.rules.take k))).map Grp.dead)) ?_ ?_).trans (P8 (by omega) ?_ ?_)))
 · rw[f2]
   simp only[Jz,List.mem_cons,List.not_mem_nil,or_false] at hp;rcases hp with rfl|rfl|rfl|rfl|rfl|rfl|rfl<;>first|rfl|assumption
 · simp[C6,Ac.kill,Abs.hl]
 · intro g hg
   show _=if g∈Mc d.states.toNat then ((C6 d k V).at_ g).dead else (C6 d k V).at_ g
   have hlen:(C6 d k V).n=d.states.toNat+3:=Wh d k V;have hg':g<d.states.toNat+3:=by rw[←hlen];exact hg
   match g,hg' with
   | 0,_=>rw[if_neg (by simp[Mc])];rfl
   | 1,_=>rw[if_pos (by simp[Mc])];rfl
   | 2,_=>rw[if_neg (by simp[Mc])];rfl
   | i+3,hi =>
     have hi':i<d.states.toNat:=by omega
     rw[if_pos (Zs hi'),zll d k V hi',Cy];simp only[List.cons_append,List.nil_append,List.getD_cons_succ,famF,List.map_map];exact Ca hi'
 · intro G hG
   simp only[List.mem_cons,List.not_mem_nil,or_false] at hG;rcases hG with rfl|rfl|rfl
   · exact Cc _ _ (by simp[Ak,Hx])
   · trivial
   · exact Cc _ _ (Bn.2 fun x hx=>by
       obtain⟨i,_,rfl⟩:=List.mem_map.1 hx
       rfl)
 · intro i _
   have hd:ltV 3 (ze5 d.states.toNat (toD (d.rules.take k))):=trivial;simp only[De,Jz]
   repeat' split
   all_goals first
     | exact hd
     | trivial
     | (show _<_;simp)
theorem z9i (d:Desc) (hd:CycOk d):PC Tryz.prog 122 [B2 d] (.bool (@decide (cycP d.rules d.states.toNat) (Classical.propDecidable _))):=by
 obtain⟨⟨hn1,hn2⟩,hlen,hrul⟩:=hd;have hP:=Az d.rules;refine A7 Yy ?_;unfold Nz;(with_reducible repeat' (first|(simp(disch:=omega)only[push_cast,↓zz,seval])|refine And.intro ?_ ?_|(first|refine Ab ?_ ?_|refine Aa ?_ ?_)<;>intro hc<;>(try simp only[push_cast] at hc)|omega|intro _));refine Ax (Kv (fun (s:Nat × (Nat→Nat))=>s.1≤d.rules.length) (fun s=>d.rules.length-s.1) (fun s=>Rk d s.1) (fun s=>C6 d s.1 s.2) (0,fun _=>1) (by simp) ?_ ?_)
 · exact ze4 rfl rfl rfl rfl rfl rfl
 rintro⟨k,V⟩ hk;simp only at hk ⊢;rcases Nat.lt_or_ge k d.rules.length with hkl|hkl
 · have hr:=hrul _ (Au hkl)
   generalize hre:nth d.rules k=r at *;have hgr:=Ah r.guards;have hot:=Bl r.out;obtain⟨n,hn⟩:∃ n:Nat,d.states=n:=⟨d.states.toNat,by omega⟩;obtain⟨i,hi⟩:∃ i:Nat,r.from_=i:=⟨r.from_.toNat,by omega⟩;obtain⟨j,hj⟩:∃ j:Nat,r.to_=j:=⟨r.to_.toNat,by omega⟩;have hin:i<n:=by omega
   have hjn:j<n:=by omega
   have hni:¬n=i:=by omega
   have ee:Rk d k=De [(1,.ptr 0 1 0 0),(3,.ref 1 1 0 n),(4,.ref 2 1 0 n),(21,Cz d.rules),(22,.int .i64 d.rules.length),(23,.int .i64 k)]:=by simp only[Rk,hn,Int.toNat_natCast]
   have eh:C6 d k V=Abs.hl (⟨6,1,true,[B2 d]⟩::⟨1,1,true,famT n V (toD (d.rules.take k))⟩::⟨1,1,true,famI n (inD (d.rules.take k))⟩::famF n V (toD (d.rules.take k))):=by simp only[C6,hn,Int.toNat_natCast]
   rw[ee,eh];clear ee eh;have hFl:(famF n V (toD (d.rules.take k))).length=n:=by simp[famF]
   have hTl:(famT n V (toD (d.rules.take k))).length=n:=by simp[famT]
   have hIl:(famI n (inD (d.rules.take k))).length=n:=by simp[famI]
   have gI:∀ G,(famF n V (toD (d.rules.take k))++[G]).getD i default=z2n (V i) (toD (d.rules.take k) i):=fun G=>by
     rw[List.getD_eq_getElem?_getD,List.getElem?_append_left (by omega),←List.getD_eq_getElem?_getD];exact Ca hin
   have gR:∀ G,(famF n V (toD (d.rules.take k))++[G]).getD n default=G:=fun G=>by
     rw[List.getD_eq_getElem?_getD,List.getElem?_append_right (by omega)];simp[hFl]
   have tI:(famT n V (toD (d.rules.take k))).getD i .any=.ref (i+3) (V i) 0 (toD (d.rules.take k) i).length:=Ca hin;have iJ:(famI n (inD (d.rules.take k))).getD j .any=.int .i64 (inD (d.rules.take k) j):=Ca hjn
   have sR:∀ G G',setQ (famF n V (toD (d.rules.take k))++[G]) n G'=some (famF n V (toD (d.rules.take k))++[G']):=fun G G'=>by
     have:=z63 (famF n V (toD (d.rules.take k))) G G'
     rwa [hFl] at this
   have sI:∀ G G',setQ (famF n V (toD (d.rules.take k))++[G]) i G'=some ((famF n V (toD (d.rules.take k))).set i G'++[G]):=fun G G'=>z64 _ _ _ (by omega)
   have gR2:∀ G G',((famF n V (toD (d.rules.take k))).set i G'++[G]).getD n default=G:=fun G G'=>by
     rw[List.getD_eq_getElem?_getD,List.getElem?_append_right (by simp[hFl])];simp[hFl]
   have hSB:∀ R G,Cd 3 [i+3] (famF n V (toD (d.rules.take k))++[R]) ((famF n V (toD (d.rules.take k))).set i G++[R]):=fun R G=>by
     rw[←List.set_append_left _ _ (by omega)];exact K3 (by simp;omega)
   generalize hF:famF n V (toD (d.rules.take k))=F at *;generalize hT:famT n V (toD (d.rules.take k))=TT at *;generalize hI:famI n (inD (d.rules.take k))=II at *;generalize hD:toD (d.rules.take k) i=Di at *;generalize hJ:inD (d.rules.take k) j=Ij at *;refine W_T ?_;have hEx:(!Di.isEmpty||(Di.map (AV.int .i64)).isEmpty)=true:=by cases Di<;>rfl
   have hDl:Di.length≤4096:=by rw[←hD];have:=zlk (d.rules.take k) i;simp at this;omega
   have hJb:0≤Ij∧Ij≤4096:=by rw[←hJ];have:=ze2 (d.rules.take k) j;simp at this;omega
   (with_reducible repeat' (first|(simp(disch:=omega)only[push_cast,↓zz,seval,hP,hre,hi,hj,hFl,hTl,hIl,gI,gR,gR2,sR,sI,tI,iJ,List.cons_append,List.length_append,List.length_cons])|refine And.intro ?_ ?_|(first|refine Ab ?_ ?_|refine Aa ?_ ?_)<;>intro hc<;>(try simp only[push_cast] at hc)|omega|intro _))
   · refine Cm [i+3] ?_
     (with_reducible repeat' (first|(simp(disch:=omega)only[push_cast,↓zz,seval,xx,List.mem_cons,List.not_mem_nil,or_false,false_or,not_or,not_false_eq_true,true_or,or_true,hP,hre,hi,hj,hFl,hTl,hIl,gI,gR,gR2,sR,sI,tI,iJ,List.cons_append,List.length_append,List.length_cons,hni,hEx])|refine And.intro ?_ ?_|(first|refine Ab ?_ ?_|refine Aa ?_ ?_)<;>intro hc<;>(try simp only[push_cast] at hc)|omega|intro _))
     · exact hSB _ _
     have he:Cr (nth d.rules k)=true:=by rw[hre,Cr];simpa using ‹(r.guards.length:Int)=0›
     have e1:=zjh (i:=i) hkl (by rw[hre];exact hi) he;have e2:=zji (j:=j) hkl (by rw[hre];exact hj) he;refine⟨(k+1,setV V i (V i+1)),ze1 (gar:=[⟨5,1,true,[.agg [.int .i64 i,.int .i64 j,Ao r.guards,.int .i64 r.eat,Ea r.out]]⟩]) hn1 ?_ ?_ ?_ ?_ ?_ ?_ ?_,by simp only;omega,by simp only;omega⟩
     · rw[cycL,e1,e2,hn,Int.toNat_natCast,←hF,←hT,←hI,←hD,←hJ,hre,hj,zjf hin,z65 hjn,zjg hin]
       rfl
     all_goals first|rfl|(rw[hn];rfl)
   · have he:Cr (nth d.rules k)=false:=by rw[hre,Cr];simpa using ‹¬(r.guards.length:Int)=0›
     obtain⟨e1,e2⟩:=zjj hkl he;refine⟨(k+1,V),ze1 (gar:=[⟨5,1,true,[.agg [.int .i64 i,.int .i64 j,Ao r.guards,.int .i64 r.eat,Ea r.out]]⟩]) hn1 ?_ ?_ ?_ ?_ ?_ ?_ ?_,by simp only;omega,by simp only;omega⟩
     · rw[cycL,e1,e2,hn,Int.toNat_natCast,hF,hT,hI]
       rfl
     all_goals first|rfl|(rw[hn];rfl)
 · obtain rfl:k=d.rules.length:=by omega
   obtain⟨n,hn⟩:∃ n:Nat,d.states=n:=⟨d.states.toNat,by omega⟩;have ee:Rk d d.rules.length=De [(1,.ptr 0 1 0 0),(3,.ref 1 1 0 n),(4,.ref 2 1 0 n),(21,Cz d.rules),(22,.int .i64 d.rules.length),(23,.int .i64 d.rules.length)]:=by simp only[Rk,hn,Int.toNat_natCast]
   refine W_T ?_;rw[ee,T9];(with_reducible repeat' (first|(simp(disch:=omega)only[push_cast,↓zz,seval,hP])|refine And.intro ?_ ?_|(first|refine Ab ?_ ?_|refine Aa ?_ ?_)<;>intro hc<;>(try simp only[push_cast] at hc)|omega|intro _));refine zpd (z9h rfl (by rw[hn];rfl) (by rw[hn];rfl) rfl (by rw[hn];rfl) (by rw[hn];rfl) rfl) ?_
   have el:Jz d d.rules.length=[(1,.ptr 0 1 0 0),(3,.lst 1 ((List.range n).map fun i=>Sd (toD d.rules i))),(4,.ref 2 1 0 n),(7,.nilS),(52,.ref 2 1 0 n),(53,.int .i64 n),(54,.int .i64 0)]:=by
     simp only[Jz,hn,Int.toNat_natCast,List.take_length,ze5]
   rw[el,hn,Int.toNat_natCast,List.take_length];clear el ee
   have pL:Ak ((List.range n).map fun i=>Sd (toD d.rules i))=true:=Bn.2 fun x hx=>by
     obtain⟨i,_,rfl⟩:=List.mem_map.1 hx;exact Ay .i64 _
   have lL:((List.range n).map fun i=>Sd (toD d.rules i)).length=n:=by simp
   have aL:∀ i,i<n→((List.range n).map fun i=>Sd (toD d.rules i)).getD i .any=Sd (toD d.rules i):=fun i hi=>Ca hi;have aL2:∀ i,i<n→((List.range n).map fun i=>Sd (toD d.rules i))[i]? = some (Sd (toD d.rules i)):=fun i hi=>by simp[hi]
   generalize hLe:(List.range n).map (fun i=>Sd (toD d.rules i))=L at *
   have pI:∀ f,Ak (famI n f)=true:=fun f=>Bn.2 fun x hx=>by
     obtain⟨i,_,rfl⟩:=List.mem_map.1 hx;rfl
   have lI:∀ f,(famI n f).length=n:=fun f=>by simp[famI]
   have aI:∀ f i,i<n→(famI n f).getD i .any=.int .i64 (f i):=fun f i hi=>Ca hi;have hnn:(n:Int)≤1024:=by omega
   refine Ax (A8 (fun (k:Nat)=>k≤n) (fun k=>n-k)
     (fun k=>[(1,.ptr 0 1 0 0),(3,.lst 1 L),(4,.ref 1 1 0 n),(7,.ref 2 1 0 (K2 (inD d.rules) k).length),(52,.ref 1 1 0 n),(53,.int .i64 n),(54,.int .i64 k)]) (fun k=>[⟨6,1,true,[B2 d]⟩,⟨1,1,true,famI n (inD d.rules)⟩,⟨1,1,false,(K2 (inD d.rules) k).map (AV.int .i64)⟩]) (fun env _=>[Bm 1 (env 1),Bm 1 (env 4),Bm 1 (env 7)]) 0 (by simp) ?_ ?_)
   · have z0:K2 (inD d.rules) 0=[]:=rfl
     (with_reducible repeat' (first|(simp(disch:=omega)only[push_cast,↓zz,seval,pL,lL,pI,lI,z0])|refine And.intro ?_ ?_|(first|refine Ab ?_ ?_|refine Aa ?_ ?_)<;>intro hc<;>(try simp only[push_cast] at hc)|omega|intro _))
   intro k hk;have zl:=zd6 (inD d.rules) k;rcases Nat.lt_or_ge k n with hkn|hkn
   · have aK:=aI (inD d.rules) k hkn
     have zs:=z8e (inD d.rules) k;have hib:=ze2 d.rules k;generalize inD d.rules k=v at *;refine W_T ?_;(with_reducible repeat' (first|(simp(disch:=omega)only[push_cast,↓zz,seval,pL,lL,pI,lI,aK])|refine And.intro ?_ ?_|(first|refine Ab ?_ ?_|refine Aa ?_ ?_)<;>intro hc<;>(try simp only[push_cast] at hc)|omega|intro _))
     · rw[if_pos (by assumption)] at zs
       refine⟨k+1,?_⟩;(with_reducible repeat' (first|(simp(disch:=omega)only[push_cast,↓zz,seval,zs])|refine And.intro ?_ ?_|(first|refine Ab ?_ ?_|refine Aa ?_ ?_)<;>intro hc<;>(try simp only[push_cast] at hc)|omega|intro _))
     · rw[if_neg (by assumption)] at zs
       refine⟨k+1,?_⟩;(with_reducible repeat' (first|(simp(disch:=omega)only[push_cast,↓zz,seval,zs])|refine And.intro ?_ ?_|(first|refine Ab ?_ ?_|refine Aa ?_ ?_)<;>intro hc<;>(try simp only[push_cast] at hc)|omega|intro _))
   · have hkn2:n=k:=by omega
     subst hkn2;refine W_T ?_;(with_reducible repeat' (first|(simp(disch:=omega)only[push_cast,↓zz,seval,pL,lL,pI,lI])|refine And.intro ?_ ?_|(first|refine Ab ?_ ?_|refine Aa ?_ ?_)<;>intro hc<;>(try simp only[push_cast] at hc)|omega|intro _))
     have hto:∀ s m,m<(toD d.rules s).length→0≤nth (toD d.rules s) m∧nth (toD d.rules s) m<n:=fun s m hm=>by
       have hm2:nth (toD d.rules s) m∈toD d.rules s:=Au hm;generalize nth (toD d.rules s) m=x at *;obtain⟨r,hr,rfl⟩:=List.mem_map.1 hm2;have:=hrul r (List.mem_filter.1 hr).1;omega
     refine Ax (A8 (fun (s:List Int × List Int × List Int)=>KInv d.rules n (s.1++s.2.1) (cntE d.rules s.1)) (fun s=>n-s.1.length)
       (fun s=>[(1,.ptr 0 1 0 0),(3,.lst 1 L),(4,.ref 1 1 0 n),(7,.ref 2 1 s.2.2.length s.2.1.length),(10,.int .i64 s.1.length)]) (fun s=>[⟨6,1,true,[B2 d]⟩,⟨1,1,true,famI n (cntE d.rules s.1)⟩,⟨1,1,false,(s.2.2++s.2.1).map (AV.int .i64)⟩]) (fun env _=>[Bm 1 (env 1),Bm 1 (env 4),Bm 1 (env 7)]) ([],K2 (inD d.rules) n,[]) (z8f d.rules n) ?_ ?_)
     · have e0:cntE d.rules []=inD d.rules:=funext fun j=>V5 _ _
       (with_reducible repeat' (first|(simp(disch:=omega)only[push_cast,↓zz,seval,pL,lL,pI,lI,e0])|refine And.intro ?_ ?_|(first|refine Ab ?_ ?_|refine Aa ?_ ?_)<;>intro hc<;>(try simp only[push_cast] at hc)|omega|intro _))
     rintro⟨P,td,junk⟩ hK;simp only at hK;have hlen2:=hK.len;rw[List.length_append] at hlen2;rcases td with _|⟨x,rest⟩
     · rw[List.append_nil] at hK
       have hdone:=zd9 (fun r hr=>by have:=hrul r hr;omega) hK;refine W_T ?_;(with_reducible repeat' (first|(simp(disch:=omega)only[push_cast,↓zz,seval,pL,lL,pI,lI])|refine And.intro ?_ ?_|(first|refine Ab ?_ ?_|refine Aa ?_ ?_)<;>intro hc<;>(try simp only[push_cast] at hc)|omega|intro _))
       all_goals exact decide_eq_decide.2 (by rw[←hdone];omega)
     · have hx:=hK.range x (by simp)
       obtain⟨s,rfl⟩:∃ s:Nat,x=s:=⟨x.toNat,by omega⟩;have hsn:s<n:=by omega
       have hsP:(s:Int)∉P:=fun hh=>by
         exact (List.nodup_append.1 hK.nodup).2.2 (s:Int) hh (s:Int) (by simp) rfl
       have aS:=aL s hsn;have aS2:=aL2 s hsn;have j0:(junk.map (AV.int .i64)++AV.int .i64 (s:Int)::rest.map (AV.int .i64)).getD junk.length .any=.int .i64 s:=by simp[List.getD]
       have j1:nth (junk++(s:Int)::rest) junk.length=s:=by simp[nth]
       have hjl:(junk++(s:Int)::rest).length=junk.length+(rest.length+1):=by simp
       simp only[List.length_cons] at hlen2;refine W_T ?_;(with_reducible repeat' (first|(simp(disch:=omega)only[push_cast,↓zz,seval,pL,lL,pI,lI,aS,aS2,j0,j1,hjl,List.length_cons])|refine And.intro ?_ ?_|(first|refine Ab ?_ ?_|refine Aa ?_ ?_)<;>intro hc<;>(try simp only[push_cast] at hc)|omega|intro _))
       have hK0:KInv d.rules n (P++[(s:Int)]++rest) (E8 d.rules P s 0):=by
         rw[Tu,List.append_assoc];exact hK
       have hDb:=zlk d.rules s
       refine Ax (A8 (fun (q:Nat × List Int × List Int)=>q.1≤(toD d.rules s).length∧KInv d.rules n (P++[(s:Int)]++q.2.1) (E8 d.rules P s q.1)) (fun q=>(toD d.rules s).length-q.1)
         (fun q=>[(1,.ptr 0 1 0 0),(3,.lst 1 L),(4,.ref 1 1 0 n),(7,.ref 2 1 q.2.2.length q.2.1.length),(10,.int .i64 P.length),(79,Sd (toD d.rules s)),(80,.int .i64 (toD d.rules s).length),(81,.int .i64 q.1)]) (fun q=>[⟨6,1,true,[B2 d]⟩,⟨1,1,true,famI n (E8 d.rules P s q.1)⟩,⟨1,1,false,(q.2.2++q.2.1).map (AV.int .i64)⟩]) (fun env _=>[Bm 1 (env 1),Bm 1 (env 4),Bm 1 (env 7)]) (0,rest,junk++[(s:Int)]) ⟨by simp,hK0⟩ ?_ ?_)
       · have e0:=Tu d.rules P s
         (with_reducible repeat' (first|(simp(disch:=omega)only[push_cast,↓zz,seval,pL,lL,pI,lI,e0,List.map_append,List.append_assoc,List.map_cons,List.map_nil,List.cons_append,List.nil_append,List.length_append,List.length_cons,List.length_nil])|refine And.intro ?_ ?_|(first|refine Ab ?_ ?_|refine Aa ?_ ?_)<;>intro hc<;>(try simp only[push_cast] at hc)|omega|intro _))
       rintro⟨m,td,jk⟩ ⟨m1,m2⟩;simp only at m1 m2;have hlen3:=m2.len;simp only[List.length_append,List.length_cons,List.length_nil] at hlen3;rcases Nat.lt_or_ge m (toD d.rules s).length with hm|hm
       · obtain⟨t1,t2⟩:=hto s m hm
         obtain⟨t,ht⟩:∃ t:Nat,nth (toD d.rules s) m=t:=⟨(nth (toD d.rules s) m).toNat,by omega⟩;have htn:t<n:=by omega
         have hst:=zd8 hsP hm ht htn m2;have hle:=M6 (P:=P) hm ht;have hps:=Zd hsP hm ht;have aT:=aI (E8 d.rules P s m) t htn;have aT2:=aI (E8 d.rules P s (m+1)) t htn;have hv:E8 d.rules P s (m+1) t=E8 d.rules P s m t-1:=by rw[hle];simp
         have hset:(famI n (E8 d.rules P s m)).set t (.int .i64 (E8 d.rules P s m t-1))=famI n (E8 d.rules P s (m+1)):=by rw[hle];exact z65 htn
         have hlb:E8 d.rules P s m t≤4096:=by
           have c1:cntE d.rules P t≤inD d.rules t:=by
             rw[←V5];exact zpm _ _ _
           have c2:=ze2 d.rules t;have c3:E8 d.rules P s m t≤cntE d.rules P t:=by simp only[E8];omega
           omega
         rw[hv] at aT2;generalize E8 d.rules P s m t=v at *;refine W_T ?_
         have eD:List.drop jk.length (jk.map (AV.int .i64)++td.map (AV.int .i64))=td.map (AV.int .i64):=by
           rw[List.drop_append_of_le_length (by simp),List.drop_eq_nil_of_le (by simp),List.nil_append]
         (with_reducible repeat' (first|(simp(disch:=omega)only[push_cast,↓zz,seval,pL,lL,pI,lI,ht,aT,aT2,hset,eD])|refine And.intro ?_ ?_|(first|refine Ab ?_ ?_|refine Aa ?_ ?_)<;>intro hc<;>(try simp only[push_cast] at hc)|omega|intro _))
         · rw[if_pos (by assumption)] at hst
           refine⟨(m+1,td++[(t:Int)],jk),?_⟩;(with_reducible repeat' (first|(simp(disch:=omega)only[push_cast,↓zz,seval,List.map_append,List.append_assoc,List.map_cons,List.map_nil,List.length_append,List.length_cons,List.length_nil])|refine And.intro ?_ ?_|(first|refine Ab ?_ ?_|refine Aa ?_ ?_)<;>intro hc<;>(try simp only[push_cast] at hc)|omega|intro _));simpa [List.append_assoc] using hst
         · rw[if_pos (by assumption)] at hst
           refine⟨(m+1,td++[(t:Int)],[]),?_⟩;(with_reducible repeat' (first|(simp(disch:=omega)only[push_cast,↓zz,seval,List.map_append,List.append_assoc,List.map_cons,List.map_nil,List.nil_append,List.length_append,List.length_cons,List.length_nil])|refine And.intro ?_ ?_|(first|refine Ab ?_ ?_|refine Aa ?_ ?_)<;>intro hc<;>(try simp only[push_cast] at hc)|omega|intro _));simpa [List.append_assoc] using hst
         · rw[if_neg (by assumption)] at hst
           refine⟨(m+1,td,jk),?_⟩;(with_reducible repeat' (first|(simp(disch:=omega)only[push_cast,↓zz,seval])|refine And.intro ?_ ?_|(first|refine Ab ?_ ?_|refine Aa ?_ ?_)<;>intro hc<;>(try simp only[push_cast] at hc)|omega|intro _));simpa [List.append_assoc] using hst
       · have hme:m=(toD d.rules s).length:=by omega
         subst hme;have hE:=zd7 (l:=d.rules) hsP;rw[hE] at m2;rw[hE];refine W_T ?_;(with_reducible repeat' (first|(simp(disch:=omega)only[push_cast,↓zz,seval,pL,lL,pI,lI])|refine And.intro ?_ ?_|(first|refine Ab ?_ ?_|refine Aa ?_ ?_)<;>intro hc<;>(try simp only[push_cast] at hc)|omega|intro _))
         all_goals
           refine⟨(P++[(s:Int)],td,jk),?_⟩;(with_reducible repeat' (first|(simp(disch:=omega)only[push_cast,↓zz,seval,List.length_append,List.length_cons,List.length_nil])|refine And.intro ?_ ?_|(first|refine Ab ?_ ?_|refine Aa ?_ ?_)<;>intro hc<;>(try simp only[push_cast] at hc)|omega|intro _))
         all_goals (simpa [List.append_assoc] using m2)
inductive Reach (E:List (Int × Int)) (F:List Int):Int→Prop where
 | base {s:Int}:s∈F→Reach E F s
 | step {s t:Int}:Reach E F s→(s,t)∈E→Reach E F t
noncomputable def z67 (E:List (Int × Int)) (F:List Int) (i:Nat):Bool:=@decide (Reach E F i) (Classical.propDecidable _)
structure InR (n:Nat) (F:List Int) (E:List (Int × Int)):Prop where
 f:∀ s∈F,0≤s∧s<n
 e:∀ e∈E,(0≤e.1∧e.1<n)∧0≤e.2∧e.2<n
theorem Reach.rng {n:Nat} {F:List Int} {E:List (Int × Int)} (h:InR n F E) {s:Int} (hs:Reach E F s):0≤s∧s<n:=by
 cases hs with
 | base h1=>exact h.f _ h1
 | step _ h1=>exact (h.e _ h1).2
structure SpInv (n:Nat) (F:List Int) (E:List (Int × Int)) (on:Nat→Bool) (todo:List Int):Prop where
 r1:∀ s∈todo,Reach E F s
 r2:∀ i:Nat,on i=true→Reach E F i
 base:∀ s∈F,on s.toNat=true∨s∈todo
 step:∀ i:Nat,on i=true→∀ t,((i:Int),t)∈E→on t.toNat=true∨t∈todo
def setB (on:Nat→Bool) (s:Nat) (j:Nat):Bool:=if j=s then true else on j
theorem pc_t' {P:Program} {f m np:Nat} {xs:List AV} {y:AV} {res:List ARes} {B:AC} (hf:Ar P f xs.length=some ⟨m,np,res,B⟩) (h:T P m 0 B (entry xs) (Abs.hl []) (Ret P res fun z H=>Cp 4 H z∧ansW (frzV 4 H z) y)):PC P f xs y:=by
 refine zr4 hf 4 ?_;rw[z4k];exact T.mono h fun x env H hh=>z4h (fun z H hh=>⟨hh.1,zkx hh.2⟩) hh
def spB (n:Nat) (on:Nat→Bool):List AV:=(List.range n).map fun i=>AV.bool (on i)
theorem zpx {n s:Nat} {on:Nat→Bool} (h:s<n):(spB n on).set s (.bool true)=spB n (setB on s):=by
 rw[spB,Db h,spB];refine List.map_congr_left fun p _=>?_;by_cases e:p=s
 · subst e;simp[setB]
 · simp[e,setB]
noncomputable def zlm (n:Nat) (F:List Int) (E:List (Int × Int)):List Bool:=(List.range n).map (z67 E F)
def Iv {α:Type} (p:α→Bool):List α→Nat→Option Nat
 | [],_=>none
 | x::l,i=>if p x then Iv p l (i+1) else some i
theorem z68 {α:Type} [Inhabited α] {p:α→Bool} {l:List α} {k:Nat} (h:k<l.length):Iv p (l.drop k) k=if p (nth l k) then Iv p (l.drop (k+1)) (k+1) else some k:=by rw[drop_at h,Iv]
theorem J0 {α:Type} {p:α→Bool}:∀ {l:List α} {i:Nat},Iv p l i=none→∀ x∈l,p x=true
 | [],_,_,_,h=>by cases h
 | y::l,i,h,x,hx=>by
   rw[Iv] at h;split at h
   · rename_i hp
     rcases List.mem_cons.1 hx with rfl|hx
     · exact hp
     · exact J0 h x hx
   · cases h
def Fj (d:Desc) (f:Eu):Bool:=Hw d f.from_&&(Er d.in_ f.guards&&Fi d f.out f.guards)
open Classical in
noncomputable def Fq (d:Desc):Int × Int :=
 if Nf d=false then (1,0) else
   match Iv (Gy d) d.rules 0 with
   | some i=>(2,i)
   | none=>match Iv (Fj d) d.finals 0 with
     | some i=>(3,i)
     | none=>if cycP d.rules d.states.toNat then (4,0) else (0,0)
def E1 (d:Desc):Prop:=(∀ r∈d.rules,∀ t∈r.out,t.parts.length<1000000000000)∧∀ f∈d.finals,∀ t∈f.out,t.parts.length<1000000000000
theorem Wi {d:Desc} (h:Nf d=true):(1≤d.states∧d.states≤1024)∧d.rules.length≤4096∧d.finals.length≤4096∧0≤d.start∧d.start<d.states:=by
 simp only[Nf,Hw,Bool.and_eq_true,decide_eq_true_eq] at h;omega
theorem z2p {d:Desc} {r:Rule} (h:Gy d r=true):(0≤r.from_∧r.from_<d.states)∧0≤r.to_∧r.to_<d.states:=by
 simp only[Gy,Hw,Bool.and_eq_true,decide_eq_true_eq] at h;omega
theorem z9j (d:Desc) (hf:E1 d):PC Tryz.prog 82 [B2 d] (.tup [.int .i64 (Fq d).1,.int .i64 (Fq d).2]):=by
 have hH:=zdz d;have hPr:=Az d.rules;have hPf:=As d.finals;refine A7 Yt ?_;unfold Nu;cases hh:Nf d with
 | false =>
   rw[hh] at hH;rw[Fq,if_pos hh];(with_reducible repeat' (first|(simp(disch:=omega)only[push_cast,↓zz,seval])|refine And.intro ?_ ?_|(first|refine Ab ?_ ?_|refine Aa ?_ ?_)<;>intro hc<;>(try simp only[push_cast] at hc)|refine eK hH ?_|refine eQ hH ?_|refine eG hH ?_|((first|refine cK hH ?_|refine cQ hH ?_|refine cG hH ?_);(simp(disch:=omega)only[push_cast,↓zz,seval]);(fail_if_success change False))|omega|intro _))
 | true =>
 rw[hh] at hH;obtain⟨b1,b2,b3,b4⟩:=Wi hh
 have hW:Fq d=match Iv (Gy d) d.rules 0 with
   | some i=>(2,(i:Int))
   | none=>match Iv (Fj d) d.finals 0 with
     | some i=>(3,(i:Int))
     | none=>if (@decide (cycP d.rules d.states.toNat) (Classical.propDecidable _))=true then (4,0) else (0,0):=by
   rw[Fq,if_neg (by simp[hh])];split
   · rfl
   · split
     · rfl
     · by_cases hc:cycP d.rules d.states.toNat
       · rw[if_pos hc,if_pos (@decide_eq_true _ (Classical.propDecidable _) hc)]
       · rw[if_neg hc,if_neg (by rw[@decide_eq_false _ (Classical.propDecidable _) hc];simp)]
 (with_reducible repeat' (first|(simp(disch:=omega)only[push_cast,↓zz,seval])|refine And.intro ?_ ?_|(first|refine Ab ?_ ?_|refine Aa ?_ ?_)<;>intro hc<;>(try simp only[push_cast] at hc)|refine eK hH ?_|refine eQ hH ?_|refine eG hH ?_|((first|refine cK hH ?_|refine cQ hH ?_|refine cG hH ?_);(simp(disch:=omega)only[push_cast,↓zz,seval]);(fail_if_success change False))|omega|intro _))
 refine Ax (A8 (fun (k:Nat)=>k≤d.rules.length∧Iv (Gy d) d.rules 0=Iv (Gy d) (d.rules.drop k) k) (fun k=>d.rules.length-k)
   (fun k=>[(1,.ptr 0 1 0 0),(12,Cz d.rules),(13,.int .i64 d.rules.length),(14,.int .i64 k)]) (fun k=>[⟨6,1,true,[B2 d]⟩]) (fun env _=>[Bm 1 (env 1)]) 0 ⟨by simp,rfl⟩ ?_ ?_)
 · (with_reducible repeat' (first|(simp(disch:=omega)only[push_cast,↓zz,seval,hPr,hPf])|refine And.intro ?_ ?_|(first|refine Ab ?_ ?_|refine Aa ?_ ?_)<;>intro hc<;>(try simp only[push_cast] at hc)|omega|intro _))
 rintro k ⟨k1,k2⟩;rcases Nat.lt_or_ge k d.rules.length with hk|hk
 · have hr:=ze0 d (nth d.rules k) (hf.1 _ (Au hk))
   rw[z68 hk] at k2;cases hb:Gy d (nth d.rules k) with
   | false =>
     rw[hb] at hr k2;simp only[Bool.false_eq_true,if_false] at k2;rw[hW,k2];refine W_T ?_;(with_reducible repeat' (first|(simp(disch:=omega)only[push_cast,↓zz,seval,hPr,hPf])|refine And.intro ?_ ?_|(first|refine Ab ?_ ?_|refine Aa ?_ ?_)<;>intro hc<;>(try simp only[push_cast] at hc)|refine eK hr ?_|refine eQ hr ?_|refine eG hr ?_|((first|refine cK hr ?_|refine cQ hr ?_|refine cG hr ?_);(simp(disch:=omega)only[push_cast,↓zz,seval,hPr,hPf]);(fail_if_success change False))|omega|intro _))
   | true =>
     rw[hb] at hr k2;simp only[if_true] at k2;refine W_T ?_;(with_reducible repeat' (first|(simp(disch:=omega)only[push_cast,↓zz,seval,hPr,hPf])|refine And.intro ?_ ?_|(first|refine Ab ?_ ?_|refine Aa ?_ ?_)<;>intro hc<;>(try simp only[push_cast] at hc)|refine eK hr ?_|refine eQ hr ?_|refine eG hr ?_|((first|refine cK hr ?_|refine cQ hr ?_|refine cG hr ?_);(simp(disch:=omega)only[push_cast,↓zz,seval,hPr,hPf]);(fail_if_success change False))|omega|intro _))
     all_goals exact⟨k+1,by push_cast,⟨by omega,k2⟩,by omega⟩
 · rw[List.drop_of_length_le hk,Iv] at k2
   have hall:=J0 k2;have hC:=z9i d ⟨b1,b2,fun r hr=>z2p (hall r hr)⟩;rw[k2] at hW;simp only at hW;refine W_T ?_;(with_reducible repeat' (first|(simp(disch:=omega)only[push_cast,↓zz,seval,hPr,hPf])|refine And.intro ?_ ?_|(first|refine Ab ?_ ?_|refine Aa ?_ ?_)<;>intro hc<;>(try simp only[push_cast] at hc)|omega|intro _))
   refine Ax (A8 (fun (k:Nat)=>k≤d.finals.length∧Iv (Fj d) d.finals 0=Iv (Fj d) (d.finals.drop k) k) (fun k=>d.finals.length-k)
     (fun k=>[(1,.ptr 0 1 0 0),(26,Cw d.finals),(27,.int .i64 d.finals.length),(28,.int .i64 k)]) (fun k=>[⟨6,1,true,[B2 d]⟩]) (fun env _=>[Bm 1 (env 1)]) 0 ⟨by simp,rfl⟩ ?_ ?_)
   · (with_reducible repeat' (first|(simp(disch:=omega)only[push_cast,↓zz,seval,hPr,hPf])|refine And.intro ?_ ?_|(first|refine Ab ?_ ?_|refine Aa ?_ ?_)<;>intro hc<;>(try simp only[push_cast] at hc)|omega|intro _))
   rintro j ⟨j1,j2⟩;rcases Nat.lt_or_ge j d.finals.length with hj|hj
   · generalize hfe:nth d.finals j=f at *
     have hfm:f∈d.finals:=by rw[←hfe];exact Au hj
     have hfo:=hf.2 f hfm;have h1:=Jy d f.from_;have h2:=Ri d.in_ f.guards;have hP:=Ah f.guards;have hT:=Bl f.out;rw[z68 hj,hfe] at j2;cases hg:Er d.in_ f.guards with
     | false =>
       have hb:Fj d f=false:=by rw[Fj,hg];simp
       rw[hg] at h2;rw[hb] at j2;simp only[Bool.false_eq_true,if_false] at j2;rw[hW,j2];refine W_T ?_;(with_reducible repeat' (first|(simp(disch:=omega)only[push_cast,↓zz,seval,hPr,hPf,hfe,hP,hT])|refine And.intro ?_ ?_|(first|refine Ab ?_ ?_|refine Aa ?_ ?_)<;>intro hc<;>(try simp only[push_cast] at hc)|refine eK h1 ?_|refine eQ h1 ?_|refine eG h1 ?_|refine eK h2 ?_|refine eQ h2 ?_|refine eG h2 ?_|((first|refine cK h1 ?_|refine cQ h1 ?_|refine cG h1 ?_|refine cK h2 ?_|refine cQ h2 ?_|refine cG h2 ?_);(simp(disch:=omega)only[push_cast,↓zz,seval,hPr,hPf,hfe,hP,hT]);(fail_if_success change False))|omega|intro _))
     | true =>
       rw[hg] at h2;obtain⟨g1,g2⟩:=E4 hg;have h4:=Rj d f.out f.guards hfo (fun g hg=>by have:=g2 g hg;omega) (by omega);cases hb:Fj d f with
       | false =>
         rw[hb] at j2;simp only[Bool.false_eq_true,if_false] at j2;rw[hW,j2];rw[Fj,hg,Bool.true_and] at hb;refine W_T ?_;(with_reducible repeat' (first|(simp(disch:=omega)only[push_cast,↓zz,seval,hPr,hPf,hfe,hP,hT])|refine And.intro ?_ ?_|(first|refine Ab ?_ ?_|refine Aa ?_ ?_)<;>intro hc<;>(try simp only[push_cast] at hc)|refine eK h1 ?_|refine eQ h1 ?_|refine eG h1 ?_|refine eK h2 ?_|refine eQ h2 ?_|refine eG h2 ?_|refine eK h4 ?_|refine eQ h4 ?_|refine eG h4 ?_|((first|refine cK h1 ?_|refine cQ h1 ?_|refine cG h1 ?_|refine cK h2 ?_|refine cQ h2 ?_|refine cG h2 ?_|refine cK h4 ?_|refine cQ h4 ?_|refine cG h4 ?_);(simp(disch:=omega)only[push_cast,↓zz,seval,hPr,hPf,hfe,hP,hT]);(fail_if_success change False))|omega|intro _))
         all_goals first
           | (exfalso;simp_all;done)
           | trace_state
       | true =>
         rw[hb] at j2;simp only[if_true] at j2;rw[Fj,hg,Bool.true_and,Bool.and_eq_true] at hb;rw[hb.1] at h1;rw[hb.2] at h4;refine W_T ?_;(with_reducible repeat' (first|(simp(disch:=omega)only[push_cast,↓zz,seval,hPr,hPf,hfe,hP,hT])|refine And.intro ?_ ?_|(first|refine Ab ?_ ?_|refine Aa ?_ ?_)<;>intro hc<;>(try simp only[push_cast] at hc)|refine eK h1 ?_|refine eQ h1 ?_|refine eG h1 ?_|refine eK h2 ?_|refine eQ h2 ?_|refine eG h2 ?_|refine eK h4 ?_|refine eQ h4 ?_|refine eG h4 ?_|((first|refine cK h1 ?_|refine cQ h1 ?_|refine cG h1 ?_|refine cK h2 ?_|refine cQ h2 ?_|refine cG h2 ?_|refine cK h4 ?_|refine cQ h4 ?_|refine cG h4 ?_);(simp(disch:=omega)only[push_cast,↓zz,seval,hPr,hPf,hfe,hP,hT]);(fail_if_success change False))|omega|intro _))
         all_goals exact⟨j+1,by push_cast,⟨by omega,j2⟩,by omega⟩
   · rw[List.drop_of_length_le hj,Iv] at j2
     rw[j2] at hW;simp only at hW;generalize @decide (cycP d.rules d.states.toNat) (Classical.propDecidable _)=c at *;refine W_T ?_;rw[hW];cases c
     · (with_reducible repeat' (first|(simp(disch:=omega)only[push_cast,↓zz,seval,hPr,hPf])|refine And.intro ?_ ?_|(first|refine Ab ?_ ?_|refine Aa ?_ ?_)<;>intro hc<;>(try simp only[push_cast] at hc)|refine eK hC ?_|refine eQ hC ?_|refine eG hC ?_|((first|refine cK hC ?_|refine cQ hC ?_|refine cG hC ?_);(simp(disch:=omega)only[push_cast,↓zz,seval,hPr,hPf]);(fail_if_success change False))|omega|intro _))
     · (with_reducible repeat' (first|(simp(disch:=omega)only[push_cast,↓zz,seval,hPr,hPf])|refine And.intro ?_ ?_|(first|refine Ab ?_ ?_|refine Aa ?_ ?_)<;>intro hc<;>(try simp only[push_cast] at hc)|refine eK hC ?_|refine eQ hC ?_|refine eG hC ?_|((first|refine cK hC ?_|refine cQ hC ?_|refine cG hC ?_);(simp(disch:=omega)only[push_cast,↓zz,seval,hPr,hPf]);(fail_if_success change False))|omega|intro _))
       all_goals trace_state
noncomputable def B6 (d:Desc):Int:=if (Fq d).1=0 then 0 else 2
theorem Fz (d:Desc) (hf:E1 d):PC Tryz.prog 39 [B2 d] (.int .i64 (B6 d)):=by
 have hW:=z9j d hf;refine A7 Yq ?_;unfold Nr B6;generalize Fq d=w at *;by_cases h:w.1=0
 · rw[if_pos h]
   (with_reducible repeat' (first|(simp(disch:=omega)only[push_cast,↓zz,seval,h])|refine And.intro ?_ ?_|(first|refine Ab ?_ ?_|refine Aa ?_ ?_)<;>intro hc<;>(try simp only[push_cast] at hc)|refine eK hW ?_|refine eQ hW ?_|refine eG hW ?_|((first|refine cK hW ?_|refine cQ hW ?_|refine cG hW ?_);(simp(disch:=omega)only[push_cast,↓zz,seval,h]);(fail_if_success change False))|omega|intro _))
 · rw[if_neg h]
   (with_reducible repeat' (first|(simp(disch:=omega)only[push_cast,↓zz,seval,h])|refine And.intro ?_ ?_|(first|refine Ab ?_ ?_|refine Aa ?_ ?_)<;>intro hc<;>(try simp only[push_cast] at hc)|refine eK hW ?_|refine eQ hW ?_|refine eG hW ?_|((first|refine cK hW ?_|refine cQ hW ?_|refine cG hW ?_);(simp(disch:=omega)only[push_cast,↓zz,seval,h]);(fail_if_success change False))|omega|intro _))
   all_goals trace_state
theorem fold_at {α β:Type} [Inhabited α] {f:β→α→β} {l:List α} {k:Nat} {s:β} (h:k<l.length):(l.drop k).foldl f s=(l.drop (k+1)).foldl f (f s (nth l k)):=by rw[drop_at h,List.foldl_cons]
def freeB (d:Desc):Bool:=d.rules.all fun r=>!Cr r
def widF (n:Int) (r:Rule):Int:=max n r.guards.length
def zu3 (d:Desc):Int:=d.rules.foldl widF 0
def aheF (n:Int) (r:Rule):Int:=max n (r.guards.length-max r.eat 0)
def zu4 (d:Desc):Int:=d.rules.foldl aheF 0
def lonF (n:Int) (r:Rule):Int:=max n r.out.length
def lonG (n:Int) (f:Eu):Int:=max n f.out.length
def longV (d:Desc):Int:=d.finals.foldl lonG (d.rules.foldl lonF 0)
theorem Ua (a b:Int):PC Tryz.prog 30 [.int .i64 a,.int .i64 b] (B2 ⟨a,b,1,0,[],[]⟩):=by
 refine A7 Ym ?_;unfold Nn;(with_reducible repeat' (first|(simp(disch:=omega)only[push_cast,↓zz,seval])|refine And.intro ?_ ?_|(first|refine Ab ?_ ?_|refine Aa ?_ ?_)<;>intro hc<;>(try simp only[push_cast] at hc)|omega|intro _))
 all_goals trace_state
def Rl:Term:=⟨0,0,21,0,0,[⟨0,0,21,0⟩]⟩
def Es (s:Int):Desc:=⟨s,s,1,0,[⟨0,0,[domL s],1,[Rl]⟩],[⟨0,[],[]⟩]⟩
theorem zu5 {P:Program} {f:Nat} {xs:List AV} {y y2:AV} (h:PC P f xs y) (hle:AV.le y y2):PC P f xs y2:=⟨h.1,fun S cargs hS hx=>(h.2 S cargs hS hx).mono fun e w' hh=>by
 obtain⟨v,S',x,H',he,hw,ev,hS',hv,rfl,rfl⟩:=hh
 exact⟨v,S',_,_,he,hw,ev,hS',hle S' v hv,rfl,rfl⟩⟩
theorem zpy:AV.le (.lst 3 [.agg [.int .i64 0,.nilS,.nilS]]) (Cw [⟨0,[],[]⟩]) :=
 AV.le_lst rfl rfl (An (AV.le_agg (An (AV.le_refl _) (An (AV.le_nilS Nat.one_pos) (An (AV.le_nilS (by decide)) Dd)))) Dd)
theorem ze6 (s:Int):PC Tryz.prog 29 [.int .i64 s] (B2 (Es s)):=by
 have hE:=Ua s s;have hD:=Dz s;have hC:=zcu 0 0;have hp:Ak ((domL s).map B3)=true:=Dm _
 have key:PC Tryz.prog 29 [.int .i64 s] (.agg [.int .i64 s,.int .i64 s,.int .i64 1,.int .i64 0,Cz [⟨0,0,[domL s],1,[Rl]⟩],.lst 3 [.agg [.int .i64 0,.nilS,.nilS]]]):=by
   refine A7 z0z ?_;unfold P9;(with_reducible repeat' (first|(simp(disch:=omega)only[push_cast,↓zz,seval,hp])|refine And.intro ?_ ?_|(first|refine Ab ?_ ?_|refine Aa ?_ ?_)<;>intro hc<;>(try simp only[push_cast] at hc)|refine eK hE ?_|refine eQ hE ?_|refine eG hE ?_|refine eK hD ?_|refine eQ hD ?_|refine eG hD ?_|refine eK hC ?_|refine eQ hC ?_|refine eG hC ?_|((first|refine cK hE ?_|refine cQ hE ?_|refine cG hE ?_|refine cK hD ?_|refine cQ hD ?_|refine cG hD ?_|refine cK hC ?_|refine cQ hC ?_|refine cG hC ?_);(simp(disch:=omega)only[push_cast,↓zz,seval,hp]);(fail_if_success change False))|omega|intro _))
   all_goals first|rfl|trace_state
 exact zu5 key (AV.le_agg (An (AV.le_refl _) (An (AV.le_refl _) (An (AV.le_refl _) (An (AV.le_refl _) (An (AV.le_refl _) (An zpy Dd)))))))
theorem z2q (l:List Span) (hl:l.length≤1000000000000):PC Tryz.prog 95 [Aj l] (Aj l):=by
 by_cases h0:l=[]
 · subst h0
   refine zc3 ?_ ?_
   · refine A7 Ch ?_
     unfold Bw;(with_reducible repeat' (first|(simp(disch:=omega)only[push_cast,↓zz,seval])|refine And.intro ?_ ?_|(first|refine Ab ?_ ?_|refine Aa ?_ ?_)<;>intro hc<;>(try simp only[push_cast] at hc)|omega|intro _))
   · refine A7 Ch ?_
     unfold Bw;(with_reducible repeat' (first|(simp(disch:=omega)only[push_cast,↓zz,seval])|refine And.intro ?_ ?_|(first|refine Ab ?_ ?_|refine Aa ?_ ?_)<;>intro hc<;>(try simp only[push_cast] at hc)|omega|intro _))
 refine A7 Ch ?_;unfold Bw;(with_reducible repeat' (first|(simp(disch:=omega)only[push_cast,↓zz,seval])|refine And.intro ?_ ?_|(first|refine Ab ?_ ?_|refine Aa ?_ ?_)<;>intro hc<;>(try simp only[push_cast] at hc)|omega|intro _))
 all_goals trace_state
theorem Rm (gs:List (List Span)) (hl:gs.length≤1000000) (hg:∀ g∈gs,g.length≤1000000):PC Tryz.prog 78 [Ao gs] (Ao gs):=by
 have hP:=Ah gs;refine A7 Vr ?_;unfold Lv;(with_reducible repeat' (first|(simp(disch:=omega)only[push_cast,↓zz,seval])|refine And.intro ?_ ?_|(first|refine Ab ?_ ?_|refine Aa ?_ ?_)<;>intro hc<;>(try simp only[push_cast] at hc)|omega|intro _))
 refine Ax (A8 (fun (k:Nat)=>k≤gs.length) (fun k=>gs.length-k)
   (fun k=>[(3,.ref 0 1 0 k),(6,Ao gs),(7,.int .i64 gs.length),(8,.int .i64 k)]) (fun k=>[⟨1,1,false,(gs.take k).map Aj⟩]) (fun env _=>[Bm 1 (env 3)]) 0 (by simp) ?_ ?_)
 · (with_reducible repeat' (first|(simp(disch:=omega)only[push_cast,↓zz,seval,hP])|refine And.intro ?_ ?_|(first|refine Ab ?_ ?_|refine Aa ?_ ?_)<;>intro hc<;>(try simp only[push_cast] at hc)|omega|intro _))
 intro k hk;have hpk:=Ah (gs.take k);rcases Nat.lt_or_ge k gs.length with hkl|hkl
 · have hC:=z2q (nth gs k) (by have:=hg _ (Au hkl);omega)
   have e1:(gs.take (k+1)).map Aj=(gs.take k).map Aj++[Aj (nth gs k)]:=by rw[take_at hkl];simp
   have hlm:((gs.take k).map Aj).length=k:=by simp;omega
   generalize hgl:(gs.take k).map Aj=L at *;refine W_T ?_;(with_reducible repeat' (first|(simp(disch:=omega)only[push_cast,↓zz,seval,hP,hpk,hlm])|refine And.intro ?_ ?_|(first|refine Ab ?_ ?_|refine Aa ?_ ?_)<;>intro hc<;>(try simp only[push_cast] at hc)|refine eK hC ?_|refine eQ hC ?_|refine eG hC ?_|((first|refine cK hC ?_|refine cQ hC ?_|refine cG hC ?_);(simp(disch:=omega)only[push_cast,↓zz,seval,hP,hpk,hlm]);(fail_if_success change False))|omega|intro _))
   all_goals
     refine⟨k+1,?_⟩;(with_reducible repeat' (first|(simp(disch:=omega)only[push_cast,↓zz,seval,e1])|refine And.intro ?_ ?_|(first|refine Ab ?_ ?_|refine Aa ?_ ?_)<;>intro hc<;>(try simp only[push_cast] at hc)|omega|intro _))
 · obtain rfl:k=gs.length:=by omega
   have et:List.take gs.length gs=gs:=List.take_of_length_le (by simp);rw[et] at hpk ⊢;refine W_T ?_;(with_reducible repeat' (first|(simp(disch:=omega)only[push_cast,↓zz,seval,hP,hpk,et])|refine And.intro ?_ ?_|(first|refine Ab ?_ ?_|refine Aa ?_ ?_)<;>intro hc<;>(try simp only[push_cast] at hc)|omega|intro _))
   all_goals trace_state
theorem Ub (l:List Term) (hl:l.length≤1000000) (hg:∀ t∈l,t.parts.length≤1000000):PC Tryz.prog 79 [Ea l] (Ea l):=by
 have hT:=Bl l;refine A7 Ys ?_;unfold Nt;(with_reducible repeat' (first|(simp(disch:=omega)only[push_cast,↓zz,seval])|refine And.intro ?_ ?_|(first|refine Ab ?_ ?_|refine Aa ?_ ?_)<;>intro hc<;>(try simp only[push_cast] at hc)|omega|intro _))
 refine Ax (A8 (fun (k:Nat)=>k≤l.length) (fun k=>l.length-k)
   (fun k=>[(3,.ref 0 1 0 k),(6,Ea l),(7,.int .i64 l.length),(8,.int .i64 k)]) (fun k=>[⟨6,1,false,(l.take k).map Cn⟩]) (fun env _=>[Bm 6 (env 3)]) 0 (by simp) ?_ ?_)
 · (with_reducible repeat' (first|(simp(disch:=omega)only[push_cast,↓zz,seval,hT])|refine And.intro ?_ ?_|(first|refine Ab ?_ ?_|refine Aa ?_ ?_)<;>intro hc<;>(try simp only[push_cast] at hc)|omega|intro _))
 intro k hk;have hpk:=Bl (l.take k);rcases Nat.lt_or_ge k l.length with hkl|hkl
 · have hgt:=hg _ (Au hkl)
   have e1:(l.take (k+1)).map Cn=(l.take k).map Cn++[Cn (nth l k)]:=by rw[take_at hkl];simp
   have hlm:((l.take k).map Cn).length=k:=by simp;omega
   generalize hte:nth l k=t at *;have hC:=z1u t.parts (by omega);have hpp:=Hl t.parts;generalize hgl:(l.take k).map Cn=L at *;refine W_T ?_;(with_reducible repeat' (first|(simp(disch:=omega)only[push_cast,↓zz,seval,hT,hpk,hlm,hte,hpp])|refine And.intro ?_ ?_|(first|refine Ab ?_ ?_|refine Aa ?_ ?_)<;>intro hc<;>(try simp only[push_cast] at hc)|refine eK hC ?_|refine eQ hC ?_|refine eG hC ?_|((first|refine cK hC ?_|refine cQ hC ?_|refine cG hC ?_);(simp(disch:=omega)only[push_cast,↓zz,seval,hT,hpk,hlm,hte,hpp]);(fail_if_success change False))|omega|intro _))
   all_goals
     refine⟨k+1,?_⟩;(with_reducible repeat' (first|(simp(disch:=omega)only[push_cast,↓zz,seval,e1])|refine And.intro ?_ ?_|(first|refine Ab ?_ ?_|refine Aa ?_ ?_)<;>intro hc<;>(try simp only[push_cast] at hc)|omega|intro _))
 · obtain rfl:k=l.length:=by omega
   have et:List.take l.length l=l:=List.take_of_length_le (by simp);rw[et] at hpk ⊢;refine W_T ?_;(with_reducible repeat' (first|(simp(disch:=omega)only[push_cast,↓zz,seval,hT,hpk,et])|refine And.intro ?_ ?_|(first|refine Ab ?_ ?_|refine Aa ?_ ?_)<;>intro hc<;>(try simp only[push_cast] at hc)|omega|intro _))
   all_goals trace_state
theorem zln {lo hi D q:Int} (hD:0<D) (h:lo≤hi):(∃ x,lo≤x∧x≤hi∧x / D=q)↔lo / D≤q∧q≤hi / D:=by
 constructor
 · rintro⟨x,h1,h2,rfl⟩
   exact⟨Int.ediv_le_ediv hD h1,Int.ediv_le_ediv hD h2⟩
 · rintro⟨h1,h2⟩
   rcases Int.lt_or_eq_of_le h1 with h3|h3
   · refine⟨q * D,?_,?_,Int.mul_ediv_cancel _ (by omega)⟩
     · have:=(Int.ediv_lt_iff_lt_mul hD).1 h3;omega
     · exact (Int.le_ediv_iff_mul_le hD).1 h2
   · exact⟨lo,Int.le_refl _,h,h3⟩
theorem Wj {x y M:Int} (hM:0<M) (h1:x≤y) (h2:y-x<M):y / M=x / M∨y / M=x / M+1:=by
 have a:=Int.ediv_le_ediv hM h1;have c:y / M≤(x+M * 1) / M:=Int.ediv_le_ediv hM (by omega);rw[Int.add_mul_ediv_left _ _ (by omega)] at c;omega
theorem O0 {w M k:Int} (h:0≤w∧w<M):(M * k+w) % M=w:=by
 rw[Int.add_comm,Int.add_mul_emod_self_left,Int.emod_eq_of_lt h.1 h.2]
theorem ze7 {a b M w:Int} (hM:0<M) (hab:a≤b) (hs:b-a<M-1) :
   (∃ q,a≤q∧q≤b∧q % M=w)↔if a % M≤b % M then a % M≤w∧w≤b % M else (0≤w∧w≤b % M)∨(a % M≤w∧w≤M-1):=by
 have ea:=Int.mul_ediv_add_emod a M;have eb:=Int.mul_ediv_add_emod b M;have a1:=Int.emod_nonneg a (by omega:M≠0);have a2:=Int.emod_lt_of_pos a hM;have b1:=Int.emod_nonneg b (by omega:M≠0);have b2:=Int.emod_lt_of_pos b hM;constructor
 · rintro⟨q,h1,h2,rfl⟩
   have eq:=Int.mul_ediv_add_emod q M;have q1:=Int.emod_nonneg q (by omega:M≠0);have q2:=Int.emod_lt_of_pos q hM;have k1:=Wj hM hab (by omega);have k2:=Wj hM h1 (by omega);have e1:M * (a / M+1)=M * (a / M)+M:=by rw[Int.mul_add,Int.mul_one]
   rcases k1 with k1|k1<;>rcases k2 with k2|k2<;>rw[k1] at eb<;>rw[k2] at eq<;>(try rw[e1] at eb)<;>(try rw[e1] at eq)<;>split<;>omega
 · intro h
   have k1:=Wj hM hab (by omega);have e1:M * (a / M+1)=M * (a / M)+M:=by rw[Int.mul_add,Int.mul_one]
   rcases k1 with k1|k1
   · rw[k1] at eb
     rw[if_pos (by omega)] at h;exact⟨M * (a / M)+w,by omega,by omega,O0 (by omega)⟩
   · rw[k1,e1] at eb
     rw[if_neg (by omega)] at h;rcases h with h|h
     · exact⟨M * (a / M+1)+w,by omega,by omega,O0 (by omega)⟩
     · exact⟨M * (a / M)+w,by omega,by omega,O0 (by omega)⟩
theorem zjm {a b M w:Int} (hM:0<M) (hs:M-1≤b-a):(∃ q,a≤q∧q≤b∧q % M=w)↔0≤w∧w≤M-1:=by
 constructor
 · rintro⟨q,_,_,rfl⟩
   have q1:=Int.emod_nonneg q (by omega:M≠0);have q2:=Int.emod_lt_of_pos q hM;omega
 · intro h
   have e:=Int.mul_ediv_add_emod (w-a) M;have q1:=Int.emod_nonneg (w-a) (by omega:M≠0);have q2:=Int.emod_lt_of_pos (w-a) hM;refine⟨a+(w-a) % M,by omega,by omega,?_⟩;have:a+(w-a) % M=M * (-((w-a) / M))+w:=by rw[Int.mul_neg];omega
   rw[this,O0 (by omega)]
theorem z69 {d t:Nat} {s:Span} {w:Int} (hs:s.lo≤s.hi) (hn:¬(2 ^ t-1:Int)≤s.hi / 2 ^ d-s.lo / 2 ^ d):memL (imgS d t s) w↔∃ x,(s.lo≤x∧x≤s.hi)∧x / 2 ^ d % 2 ^ t=w:=by
 have hD:(0:Int)<2 ^ d:=Int.pow_pos (by decide);have hT:(0:Int)<2 ^ t:=Int.pow_pos (by decide);have hab:=Int.ediv_le_ediv hD hs
 have key:(∃ x,(s.lo≤x∧x≤s.hi)∧x / 2 ^ d % 2 ^ t=w)↔∃ q,s.lo / 2 ^ d≤q∧q≤s.hi / 2 ^ d∧q % 2 ^ t=w:=by
   constructor
   · rintro⟨x,⟨h1,h2⟩,h3⟩
     exact⟨x / 2 ^ d,Int.ediv_le_ediv hD h1,Int.ediv_le_ediv hD h2,h3⟩
   · rintro⟨q,h1,h2,h3⟩
     obtain⟨x,k1,k2,k3⟩:=(zln hD hs).2 ⟨h1,h2⟩;exact⟨x,⟨k1,k2⟩,by rw[k3];exact h3⟩
 rw[key,ze7 hT hab (by omega),imgS];split
 · simp[Aq,Bj]
 · simp[Aq,Bj]
theorem z6a {d t:Nat} {w:Int}:∀ (l out:List Span),(∀ s∈l,s.lo≤s.hi)→(∀ v,memL out v→0≤v∧v≤2 ^ t-1)→(memL (imgF d t l out) w↔memL out w∨∃ x,memL l x∧x / 2 ^ d % 2 ^ t=w)
 | [],out,_,_=>by simp[imgF,Bj]
 | s::l,out,h,ho=>by
   have hD:(0:Int)<2 ^ d:=Int.pow_pos (by decide);have hT:(0:Int)<2 ^ t:=Int.pow_pos (by decide);have hs:=h s (by simp);rw[imgF];split
   · rename_i hb
     have hf:=zjm (w:=w) hT hb;constructor
     · intro hw
       have hw':0≤w∧w≤2 ^ t-1:=by simpa [allS,Aq,Bj] using hw
       obtain⟨q,h1,h2,h3⟩:=hf.2 hw';obtain⟨x,k1,k2,k3⟩:=(zln hD hs).2 ⟨h1,h2⟩;exact .inr ⟨x,Aq.2 (.inl ⟨k1,k2⟩),by rw[k3];exact h3⟩
     · intro hw
       have:0≤w∧w≤2 ^ t-1:=by
         rcases hw with hw|⟨x,_,rfl⟩
         · exact ho w hw
         · have q1:=Int.emod_nonneg (x / 2 ^ d) (by omega:(2:Int) ^ t≠0)
           have q2:=Int.emod_lt_of_pos (x / 2 ^ d) hT;omega
       simpa [allS,Aq,Bj] using this
   · rename_i hb
     rw[z6a l _ (fun s hs=>h s (by simp[hs])) (fun v hv=>?_),D5,z69 hs hb]
     · constructor
       · rintro ((h1|⟨x,h1,h2⟩)|⟨x,h1,h2⟩)
         · exact .inl h1
         · exact .inr ⟨x,Aq.2 (.inl h1),h2⟩
         · exact .inr ⟨x,Aq.2 (.inr h1),h2⟩
       · rintro (h1|⟨x,h1,h2⟩)
         · exact .inl (.inl h1)
         · rcases Aq.1 h1 with h1|h1
           · exact .inl (.inr ⟨x,h1,h2⟩)
           · exact .inr ⟨x,h1,h2⟩
     · rcases D5.1 hv with hv|hv
       · exact ho v hv
       · obtain⟨x,_,rfl⟩:=(z69 hs hb).1 hv
         have q1:=Int.emod_nonneg (x / 2 ^ d) (by omega:(2:Int) ^ t≠0);have q2:=Int.emod_lt_of_pos (x / 2 ^ d) hT;omega
theorem mem_map {α:Type} {f:α→Span} {l:List α} {v:Int}:memL (l.map f) v↔∃ a∈l,(f a).lo≤v∧v≤(f a).hi:=by
 simp only[memL,List.mem_map];exact⟨fun⟨_,⟨a,h,rfl⟩,h2⟩=>⟨a,h,h2⟩,fun⟨a,h,h2⟩=>⟨_,⟨a,h,rfl⟩,h2⟩⟩
theorem z6b {p:Part} (s:List Span) (hb:Fh p=true):Plain (imgL p s)∧∀ v,memL (imgL p s) v↔∃ x,memL s x∧(0≤x∧x≤2097151)∧valP p x=v:=by
 have hbi:=L8.1 hb;have ht:=Ol p.take.toNat (by omega);have hT:(0:Int)<2 ^ p.take.toNat:=Int.pow_pos (by decide);obtain⟨m1,m2,m3⟩:=z5y s
 have hF:∀ w,memL (imgF p.drop.toNat p.take.toNat (E0 (A5 s) (A5 topS)) []) w↔∃ x,(memL s x∧0≤x∧x≤2097151)∧x / 2 ^ p.drop.toNat % 2 ^ p.take.toNat=w:=fun w=>by
   rw[z6a _ _ (fun t ht=>(m2 t ht).2.1) (fun v hv=>absurd hv (Bj v))];simp only[Bj,false_or,m3]
 have hr:∀ w,memL (imgF p.drop.toNat p.take.toNat (E0 (A5 s) (A5 topS)) []) w→0≤w∧w≤2 ^ p.take.toNat-1:=fun w hw=>by
   obtain⟨x,_,rfl⟩:=(hF w).1 hw;have q1:=Int.emod_nonneg (x / 2 ^ p.drop.toNat) (by omega:(2:Int) ^ p.take.toNat≠0);have q2:=Int.emod_lt_of_pos (x / 2 ^ p.drop.toNat) hT;omega
 unfold imgL;rw[if_neg (by simp[hb])];split
 · rename_i hu
   refine⟨(Av _).1,fun v=>?_⟩;rw[(Av _).2 v,hF];have e:∀ x,valP p x=x / 2 ^ p.drop.toNat % 2 ^ p.take.toNat:=fun x=>by simp[valP,hu]
   constructor
   · rintro⟨⟨x,⟨h1,h2⟩,h3⟩,_⟩
     exact⟨x,h1,h2,by rw[e];exact h3⟩
   · rintro⟨x,h1,h2,h3⟩
     rw[e] at h3;have:=hr v ((hF v).2 ⟨x,⟨h1,h2⟩,h3⟩);exact⟨⟨x,⟨h1,h2⟩,h3⟩,by omega⟩
 · rename_i hu
   refine⟨(Av _).1,fun v=>?_⟩;rw[(Av _).2 v,mem_map];constructor
   · rintro⟨⟨n,hn,h1,h2⟩,_⟩
     simp only[oneS] at h1 h2;have hn':=Il.1 hn;rw[(Av _).2,(Av _).2] at hn';obtain⟨x,⟨k1,k2⟩,k3⟩:=(hF n).1 hn'.1.1;exact⟨x,k1,k2,by rw[valP,k3];omega⟩
   · rintro⟨x,h1,h2,h3⟩
     have hv:=Ek hb h2;have hm:=(hF (x / 2 ^ p.drop.toNat % 2 ^ p.take.toNat)).2 ⟨x,⟨h1,h2⟩,rfl⟩;have:=hr _ hm;refine⟨⟨x / 2 ^ p.drop.toNat % 2 ^ p.take.toNat,Il.2 ?_,?_⟩,by omega⟩
     · rw[(Av _).2,(Av _).2]
       exact⟨⟨hm,by omega⟩,by omega⟩
     · rw[valP] at h3
       simp only[oneS];omega
def Full (l:List Span):Prop:=∀ s∈l,s.lo≤s.hi
theorem ze8 {a b:List Span} (ha:Full a) (hb:Full b):Plain (Zn a b)∧∀ v,memL (Zn a b) v↔(∃ x y,memL a x∧memL b y∧x+y=v)∧-1073741824≤v∧v≤1073741824:=by
 refine⟨(Av _).1,fun v=>?_⟩;rw[Zn,(Av _).2 v,z2g,z5z];refine and_congr_left fun _=>?_;constructor
 · rintro⟨s,hs,h⟩
   obtain⟨r,hr,h1,h2⟩:=mem_map.1 h;simp only[sumS] at h1 h2;have k1:=ha s hs;have k2:=hb r hr;refine⟨max s.lo (v-r.hi),v-max s.lo (v-r.hi),⟨s,hs,by omega,by omega⟩,⟨r,hr,by omega,by omega⟩,by omega⟩
 · rintro⟨x,y,⟨s,hs,h1,h2⟩,⟨r,hr,h3,h4⟩,rfl⟩
   exact⟨s,hs,mem_map.2 ⟨r,hr,by simp only[sumS];omega,by simp only[sumS];omega⟩⟩
theorem ze9 {out:List Span} {n:Int} (h:Full out):Full (addS out ⟨n,n⟩)∧∀ v,memL (addS out ⟨n,n⟩) v↔memL out v∨v=n:=by
 rcases Fx out with rfl|⟨m,y,rfl⟩
 · refine⟨fun s hs=>?_,fun v=>?_⟩
   · simp only[Ik,List.mem_singleton] at hs;subst hs;simp
   · rw[Ik,Aq];simp only[Bj,or_false,false_or];omega
 · have hy:=h y (by simp)
   rw[Q7];simp only;split
   · rename_i he
     refine⟨fun s hs=>?_,fun v=>?_⟩
     · rcases List.mem_append.1 hs with hs|hs
       · exact h s (by simp[hs])
       · simp only[List.mem_singleton] at hs;subst hs;simp only;omega
     · rw[D5,D5,Aq,Aq]
       simp only[Bj,or_false];constructor
       · rintro (h1|h1)
         · exact .inl (.inl h1)
         · by_cases hv:v=n
           · exact .inr hv
           · exact .inl (.inr (by omega))
       · rintro ((h1|h1)|h1)
         · exact .inl h1
         · exact .inr (by omega)
         · exact .inr (by omega)
   · refine⟨fun s hs=>?_,fun v=>?_⟩
     · rcases List.mem_append.1 hs with hs|hs
       · exact h s hs
       · simp only[List.mem_singleton] at hs;subst hs;simp
     · rw[D5,Aq]
       simp only[Bj,or_false];have:(n≤v∧v≤n)↔v=n:=by omega
       rw[this]
theorem z6c (l:List Part) {v:Int}:∀ (m:List Int) (out:List Span),Full out→(memL (m.foldl (togF l) out) v↔memL out v∨∃ x∈m,totV l x=v)
 | [],out,_=>by simp
 | x::m,out,h=>by
   obtain⟨h1,h2⟩:=ze9 (n:=totV l x) h;rw[List.foldl_cons,togF,z6c l m _ h1,h2];simp only[List.mem_cons,exists_eq_or_imp];constructor
   · rintro ((h|h)|h)
     · exact .inl h
     · exact .inr (.inl h.symm)
     · exact .inr (.inr h)
   · rintro (h|h|h)
     · exact .inl (.inl h)
     · exact .inl (.inr h.symm)
     · exact .inr h
theorem zjn {l:List Part} {s:List Span} (hl:l.length≤4) (hb:∀ p∈l,Fh p=true) (hs:Syms s):Plain (togL l s)∧∀ v,memL (togL l s) v↔∃ x,memL s x∧totV l x=v:=by
 unfold togL;split
 · rename_i h1
   obtain⟨p,rfl⟩:=List.length_eq_one_iff.1 h1;obtain⟨i1,i2⟩:=z6b s (hb p (by simp));refine⟨i1,fun v=>?_⟩;have e:nth [p] 0=p:=rfl;rw[e,i2];have e2:∀ x,totV [p] x=valP p x:=fun x=>by simp[totV]
   constructor
   · rintro⟨x,h1,_,h3⟩;exact⟨x,h1,by rw[e2];exact h3⟩
   · rintro⟨x,h1,h3⟩
     have:=hs.mem h1;exact⟨x,h1,by omega,by rw[←e2];exact h3⟩
 · refine⟨(Av _).1,fun v=>?_⟩
   rw[(Av _).2 v,z6c l _ _ (fun s hs=>by cases hs),Zp hs];simp only[Bj,false_or,Il];constructor
   · rintro⟨h,_⟩;exact h
   · rintro⟨x,h1,rfl⟩
     have:=hs.mem h1;have:=Rc (x:=x) (by omega) hb;exact⟨⟨x,h1,rfl⟩,by omega⟩
def Win (sets:List (List Span)) (w:List Int):Prop:=w.length=sets.length∧∀ i,i<sets.length→memL (nth sets i) (nth w i)
def Rn (l:List Part) (pl:List Int) (w:List Int):Int:=(pl.map fun a=>totV (atL l a) (nth w a.toNat)).sum
def totW (w:List Int) (l:List Part):Int:=(l.map fun p=>valP p (nth w p.at_.toNat)).sum
theorem z2r {w:List Int} {i j:Nat} {x:Int} (h:i<w.length):nth (w.set i x) j=if j=i then x else nth w j:=by
 simp only[nth,List.getD_eq_getElem?_getD,List.getElem?_set];split
 · subst_vars;simp[h]
 · rename_i hne;rw[if_neg (fun e=>hne e.symm)]
theorem Im {α:Type} {f g:α→Int}:∀ {l:List α},(∀ a∈l,f a=g a)→(l.map f).sum=(l.map g).sum
 | [],_=>rfl
 | a::l,h=>by simp[h a (by simp),Im (l:=l) fun b hb=>h b (by simp[hb])]
theorem Ro {α:Type} {f g:α→Int}:∀ {l:List α},(l.map fun a=>f a+g a).sum=(l.map f).sum+(l.map g).sum
 | []=>rfl
 | a::l=>by
   have:=Ro (f:=f) (g:=g) (l:=l);simp only[List.map_cons,List.sum_cons,this];omega
theorem Jc {α:Type} {f:α→Int}:∀ {l:List α},(∀ a∈l,f a=0)→(l.map f).sum=0
 | [],_=>rfl
 | a::l,h=>by simp[h a (by simp),Jc (l:=l) fun b hb=>h b (by simp[hb])]
theorem Rp {c:Int} {g:Int→Int}:∀ {l:List Int},l.Nodup→c∈l→(l.map fun a=>if c=a then g a else 0).sum=g c
 | [],_,h=>by cases h
 | a::l,hn,h=>by
   obtain⟨h1,h2⟩:=List.nodup_cons.1 hn;by_cases e:c=a
   · subst e
     have:(l.map fun a=>if c=a then g a else 0).sum=0:=Jc fun b hb=>if_neg fun (e2:c=b)=>h1 (by rw[e2];exact hb);simp[this]
   · have hm:c∈l:=by simpa [e] using h
     simp[e,Rp h2 hm]
theorem Ng (w:List Int):∀ (l:List Part) (pl:List Int),pl.Nodup→(∀ p∈l,p.at_∈pl)→Rn l pl w=totW w l
 | [],pl,_,_=>Jc fun a _=>rfl
 | p::l,pl,hn,h=>by
   have ih:=Ng w l pl hn fun q hq=>h q (by simp[hq])
   have e:∀ a∈pl,totV (atL (p::l) a) (nth w a.toNat)=(if p.at_=a then valP p (nth w a.toNat) else 0)+totV (atL l a) (nth w a.toNat):=fun a _=>by
     simp only[atL,List.filter_cons,decide_eq_true_eq];split
     · simp[totV]
     · simp[totV]
   rw[Rn,Im e,Ro,Rp (g:=fun a=>valP p (nth w a.toNat)) hn (h p (by simp))];rw[Rn] at ih;rw[ih];simp[totW]
theorem Rq:∀ (l:List Part) (pl:List Int),pl.Nodup→(l.foldl B1 pl).Nodup∧(∀ a,a∈l.foldl B1 pl↔a∈pl∨∃ p∈l,p.at_=a)∧(l.foldl B1 pl).length≤pl.length+l.length
 | [],pl,h=>⟨h,fun a=>by simp,by simp⟩
 | p::l,pl,h=>by
   have h1:(B1 pl p).Nodup∧(∀ a,a∈B1 pl p↔a∈pl∨p.at_=a)∧(B1 pl p).length≤pl.length+1:=by
     unfold B1;split
     · rename_i hm
       exact⟨h,fun a=>⟨.inl,fun hh=>hh.elim id fun e=>e ▸ hm⟩,by omega⟩
     · rename_i hm
       refine⟨List.nodup_append.2 ⟨h,by simp,fun a ha b hb=>?_⟩,fun a=>by simp[eq_comm],by simp⟩;simp only[List.mem_singleton] at hb;subst hb;exact fun e=>hm (e ▸ ha)
   obtain⟨k1,k2,k3⟩:=Rq l (B1 pl p) h1.1;refine⟨k1,fun a=>?_,by have:=h1.2.2;simp only[List.foldl_cons,List.length_cons];omega⟩;rw[List.foldl_cons,k2,h1.2.1];simp only[List.mem_cons,exists_eq_or_imp,or_assoc]
theorem Uc {l:List Span} (h:Plain l):Full l:=h.1
theorem zpz {sets:List (List Span)} {w:List Int} {a:Nat} {x:Int} (hw:Win sets w) (ha:a<sets.length) (hx:memL (nth sets a) x):Win sets (w.set a x):=by
 refine⟨by simp[hw.1],fun i hi=>?_⟩;rw[z2r (by rw[hw.1];exact ha)];split
 · subst_vars;exact hx
 · exact hw.2 i hi
theorem Zt {l:List Part} {sets:List (List Span)} (hS:Cs l sets) (hl:l.length≤4) (hne:∃ w,Win sets w):∀ (pl:List Int) (out:List Span),pl.Nodup→(∀ a∈pl,0≤a∧a<sets.length)→Full out→pl.length≤4 →
   (∀ v,memL out v→-1114111≤v∧v≤1114111+(4-(pl.length:Int)) * 264241152)→Full (pl.foldl (Bc l sets) out)∧∀ v,memL (pl.foldl (Bc l sets) out) v↔∃ o w,memL out o∧Win sets w∧o+Rn l pl w=v
 | [],out,_,_,hf,_,_=>⟨hf,fun v=>by
   obtain⟨w,hw⟩:=hne;simp only[List.foldl_nil,Rn,List.map_nil,List.sum_nil,Int.add_zero]
   exact⟨fun h=>⟨v,w,h,hw,rfl⟩,fun⟨o,_,h,_,e⟩=>e ▸ h⟩⟩
 | a::pl,out,hn,hp,hf,hlen,hb=>by
   obtain⟨n1,n2⟩:=List.nodup_cons.1 hn;have ha:=hp a (by simp);have hm:nth sets a.toNat∈sets:=Au (by omega);have hsy:=hS.syms _ hm
   have hbits:∀ p∈atL l a,Fh p=true:=fun p hp=>by
     have:=hS.parts p ((List.mem_filter.1 hp).1);simp only[Do,Bool.and_eq_true] at this;exact this.2
   have hla:(atL l a).length≤4:=Nat.le_trans (List.length_filter_le _ _) hl;obtain⟨t1,t2⟩:=zjn hla hbits hsy;obtain⟨p1,p2⟩:=ze8 hf (Uc t1)
   have htot:∀ x,memL (nth sets a.toNat) x→0≤totV (atL l a) x∧totV (atL l a) x≤264241152:=fun x hx=>by
     have:=hsy.mem hx;have:=Rc (x:=x) (by omega) hbits;omega
   simp only[List.length_cons] at hlen hb
   have hv:∀ v,memL (Bc l sets out a) v↔∃ o x,memL out o∧memL (nth sets a.toNat) x∧o+totV (atL l a) x=v:=fun v=>by
     rw[Bc,p2];constructor
     · rintro⟨⟨o,y,h1,h2,h3⟩,_⟩
       obtain⟨x,k1,k2⟩:=(t2 y).1 h2;exact⟨o,x,h1,k1,by rw[k2];exact h3⟩
     · rintro⟨o,x,h1,h2,rfl⟩
       have:=hb o h1;have:=htot x h2
       push_cast at *
       exact⟨⟨o,_,h1,(t2 _).2 ⟨x,h2,rfl⟩,rfl⟩,by omega,by omega⟩
   obtain⟨i1,i2⟩:=Zt hS hl hne pl (Bc l sets out a) n2 (fun b hb=>hp b (by simp[hb])) (Uc p1) (by omega) (fun v h=>by
     obtain⟨o,x,h1,h2,rfl⟩:=(hv v).1 h;have:=hb o h1;have:=htot x h2
     push_cast at *
     omega)
   refine⟨i1,fun v=>?_⟩;rw[List.foldl_cons,i2];constructor
   · rintro⟨u,w,h1,hw,rfl⟩
     obtain⟨o,x,k1,k2,rfl⟩:=(hv u).1 h1;refine⟨o,w.set a.toNat x,k1,zpz hw (by omega) k2,?_⟩
     have e1:Rn l pl (w.set a.toNat x)=Rn l pl w:=Im fun b hb=>by
       have:=hp b (by simp[hb]);rw[z2r (by rw[hw.1];omega),if_neg];intro e;exact n1 ((show b=a by omega) ▸ hb)
     have e2:Rn l (a::pl) (w.set a.toNat x)=totV (atL l a) x+Rn l pl (w.set a.toNat x):=by
       simp only[Rn,List.map_cons,List.sum_cons];rw[z2r (by rw[hw.1];omega),if_pos rfl]
     rw[e2,e1];omega
   · rintro⟨o,w,h1,hw,rfl⟩
     have hx:=hw.2 a.toNat (by omega);refine⟨o+totV (atL l a) (nth w a.toNat),w,(hv _).2 ⟨o,_,h1,hx,rfl⟩,hw,?_⟩;simp only[Rn,List.map_cons,List.sum_cons];omega
theorem zjo (x:Int):Full [⟨x,x⟩]:=fun s hs=>by simp only[List.mem_singleton] at hs;subst hs;simp
theorem z2s {x v:Int}:memL [⟨x,x⟩] v↔v=x:=by rw[Aq];simp only[Bj,or_false];omega
theorem zea {t:Term} {sets:List (List Span)} (hS:Cs t.parts sets) (hl:t.parts.length≤4) (hs:B4 t.sum=true) (hne:∃ w,Win sets w):Full (Ba t sets)∧∀ v,memL (Ba t sets) v↔∃ w,Win sets w∧t.sum+totW w t.parts=v:=by
 obtain⟨k1,k2,k3⟩:=Rq t.parts [] (by simp);have hsm:=Gg hs;simp only[List.length_nil] at k3
 have hat:∀ a,a∈B5 t.parts→0≤a∧a<sets.length:=fun a ha=>by
   obtain h|⟨p,hp,rfl⟩:=(k2 a).1 ha
   · cases h
   · exact Ai (hS.parts p hp)
 obtain⟨h1,h2⟩:=Zt hS hl hne (B5 t.parts) [⟨t.sum,t.sum⟩] k1 hat (zjo _) (by rw[B5];omega) (fun v hv=>by
   rw[z2s] at hv;have:(B5 t.parts).length≤4:=by rw[B5];omega
   omega)
 refine⟨h1,fun v=>?_⟩;rw[Ba,h2];constructor
 · rintro⟨o,w,e,hw,rfl⟩
   rw[z2s] at e;exact⟨w,hw,by rw[e,B5,Ng w _ _ k1 fun p hp=>(k2 _).2 (.inr ⟨p,hp,rfl⟩)]⟩
 · rintro⟨w,hw,rfl⟩
   exact⟨_,w,z2s.2 rfl,hw,by rw[B5,Ng w _ _ k1 fun p hp=>(k2 _).2 (.inr ⟨p,hp,rfl⟩)]⟩
theorem z2t {w:List Int} {n:Int}:∀ {l:List Part},(∀ p∈l,Do p n=true)→(∀ p∈l,0≤nth w p.at_.toNat∧nth w p.at_.toNat≤1114111)→totP w l=totW w l∧0≤totW w l∧totW w l≤l.length * 66060288
 | [],_,_=>by simp[totP,totW]
 | p::l,h,hx=>by
   obtain⟨i1,i2,i3⟩:=z2t (l:=l) (fun q hq=>h q (by simp[hq])) (fun q hq=>hx q (by simp[hq]));have hr:=h p (by simp);simp only[Do,Bool.and_eq_true] at hr;have hxp:=hx p (by simp);have hv:=Ek hr.2 (x:=nth w p.at_.toNat) (by omega);have e1:val1 p (nth w p.at_.toNat)=valP p (nth w p.at_.toNat):=(M4 hr.2 (by omega)).2;have e2:totW w (p::l)=valP p (nth w p.at_.toNat)+totW w l:=by simp[totW]
   rw[totP,e1,e2,i1];refine⟨rfl,by omega,?_⟩
   push_cast [List.length_cons]
   omega
theorem Jd {t:Term} {sets:List (List Span)} {w:List Int} (hS:Cs t.parts sets) (hn:Da t=true) (hw:Win sets w) :
   D6 t w=if 0≤t.sum+totW w t.parts∧t.sum+totW w t.parts≤1114111 then some (t.base+valP t.outer (t.sum+totW w t.parts)) else none:=by
 simp only[Da,Bool.and_eq_true,decide_eq_true_eq] at hn;obtain⟨⟨⟨hb,hs⟩,ho⟩,_,hl⟩:=hn;have hsm:=Gg hs;have hbm:=Gg hb;have hsym:∀ i,i<sets.length→0≤nth w i∧nth w i≤1114111:=fun i hi=>(hS.syms _ (Au hi)).mem (hw.2 i hi)
 obtain⟨e1,b1,b2⟩:=z2t (w:=w) hS.parts (fun p hp=>by
   have:=Ai (hS.parts p hp)
   exact hsym _ (by omega))
 have hall:w.all symB=true:=by
   rw[List.all_eq_true];intro x hx;obtain⟨i,hi,rfl⟩:=List.getElem_of_mem hx;have:=hsym i (by rw[←hw.1];exact hi);have e:nth w i=w[i]:=by simp[nth,hi]
   rw[e] at this;simp[symB];omega
 have hright:M5 w t.parts=true:=by
   rw[M5,List.all_eq_true];intro p hp;rw[hw.1];exact hS.parts p hp
 have hsum:=zcy w t.parts t.sum (zpj (by omega));rw[if_pos hright,e1,zpj (by omega)] at hsum;unfold D6;rw[if_pos hall,hsum];simp only;by_cases h:0≤t.sum+totW w t.parts∧t.sum+totW w t.parts≤1114111
 · have hvb:valB t.outer (t.sum+totW w t.parts)=true:=(M4 ho (by omega)).1
   have hv2:=Ek ho (x:=t.sum+totW w t.parts) (by omega);rw[if_pos h,if_pos (by simp[hvb];omega),show IntKind.i64.wrap (t.base+valP t.outer (t.sum+totW w t.parts))=t.base+valP t.outer (t.sum+totW w t.parts) from IntWalk.i64_in _ (by omega)]
 · rw[if_neg h,if_neg]
   simp only[valB,ho,Bool.true_and,Bool.and_eq_true,decide_eq_true_eq];omega
theorem Ud:∀ {m:List Span},Plain m→m≠[]→∃ a b,Zm m=some a∧z2e m=some b∧memL m a∧memL m b∧∀ v,memL m v→a≤v∧v≤b
 | [],_,h=>absurd rfl h
 | [s],h,_=>by
   have:=h.head;refine⟨s.lo,s.hi,rfl,rfl,Aq.2 (.inl (by omega)),Aq.2 (.inl (by omega)),fun v hv=>?_⟩;rw[Aq] at hv;simpa [Bj] using hv
 | s::r::m,h,_=>by
   have hs:=h.head;obtain⟨a,b,e1,e2,h1,h2,h3⟩:=Ud h.tail (by simp);have hb:=h.after h2;refine⟨s.lo,b,rfl,?_,Aq.2 (.inl (by omega)),Aq.2 (.inr h2),fun v hv=>?_⟩
   · simpa [z2e] using e2
   · rcases Aq.1 hv with h4|h4
     · omega
     · have:=h.after h4
       have:=h3 v h4;omega
theorem Wk {l:List Span} {v:Int} (h:memL l v):l≠[]:=by rintro rfl;exact Bj v h
theorem z9k {l:List Span} {u:Int} (hu:memL l u) (hb:∀ v,memL l v→-1073741824≤v∧v≤1073741824):B9 l=true↔∀ v,memL l v→0≤v∧v≤1114111:=by
 obtain⟨p1,p2⟩:=Av l;have hm:∀ v,memL (A5 l) v↔memL l v:=fun v=>by rw[p2];exact⟨fun h=>h.1,fun h=>⟨h,hb v h⟩⟩
 obtain⟨a,b,e1,e2,h1,h2,h3⟩:=Ud p1 (Wk ((hm u).2 hu))
 have hl:0<(l.length:Int):=by
   have:=List.length_pos_iff.2 (Wk hu);omega
 simp only[B9,e1,e2,Option.getD_some,Bool.and_eq_true,decide_eq_true_eq];constructor
 · rintro⟨_,k1,k2⟩ v hv
   have:=h3 v ((hm v).2 hv);omega
 · intro h
   exact⟨hl,(h a ((hm a).1 h1)).1,(h b ((hm b).1 h2)).2⟩
theorem zjp {gs:List (List Span)}:Nb gs gs.length=true↔∃ w,Win (gs.map symI) w:=by
 rw[Nb,List.take_length,List.all_eq_true];constructor
 · intro h
   refine⟨(gs.map symI).map fun s=>(nth s 0).lo,by simp,fun i hi=>?_⟩;have hi':i<gs.length:=by simpa using hi
   have h1:=h _ (Au hi');have e1:nth (gs.map symI) i=symI (nth gs i):=by simp[nth,hi']
   have e2:nth ((gs.map symI).map fun s=>(nth s 0).lo) i=(nth (symI (nth gs i)) 0).lo:=by simp[nth,hi']
   rw[e1,e2];simp only[decide_eq_true_eq] at h1;have hm:=Au (l:=symI (nth gs i)) (i:=0) (by omega);have hs:=(Zk (nth gs i)).2 _ hm;exact⟨_,hm,by omega,by omega⟩
 · rintro⟨w,hw⟩ g hg
   obtain⟨i,hi,rfl⟩:=List.getElem_of_mem hg;have h1:=hw.2 i (by simpa using hi);have e1:nth (gs.map symI) i=symI gs[i]:=by simp[nth,hi]
   rw[e1] at h1;have:=List.length_pos_iff.2 (Wk h1);simp only[decide_eq_true_eq];omega
theorem z9l {t:Term} {gs:List (List Span)} (h4:gs.length≤4) (hn:Da t=true) (hp:prtB t gs.length=true) :
   ((Eq t gs).2=true↔∀ w,Win (gs.map symI) w→(D6 t w).isSome=true)∧((Eq t gs).2=false→(Eq t gs).1=[]) ∧
   ((Eq t gs).2=true→Plain (Eq t gs).1∧∀ v,memL (Eq t gs).1 v↔∃ w,Win (gs.map symI) w∧D6 t w=some v):=by
 have hS:=Nc hp h4;have hnum:=hn;simp only[Da,Bool.and_eq_true,decide_eq_true_eq] at hnum;obtain⟨⟨⟨hb,hs⟩,ho⟩,_,hl⟩:=hnum;have hsm:=Gg hs;have hbm:=Gg hb
 have hI:Ep t gs=if Nb gs gs.length=false then ([],true) else (Ba t (gs.map symI),B9 (Ba t (gs.map symI))):=by
   rw[Ep,if_neg (by simp[hn];omega),if_neg (by simp[hp])]
 have hsome:=@zjp gs;cases hB:Nb gs gs.length
 · rw[hB] at hI hsome
   have hno:∀ w,¬Win (gs.map symI) w:=fun w hw=>by have:=hsome.2 ⟨w,hw⟩;cases this
   have e:Eq t gs=([],true):=by rw[Eq,hI];simp
   rw[e];refine⟨⟨fun _ w hw=>absurd hw (hno w),fun _=>rfl⟩,fun h=>(by cases h),fun _=>⟨⟨by simp,by simp⟩,fun v=>⟨fun h=>absurd h (Bj v),fun⟨w,hw,_⟩=>absurd hw (hno w)⟩⟩⟩
 · rw[hB] at hI hsome
   obtain⟨w0,hw0⟩:=hsome.1 rfl;obtain⟨v1,v2⟩:=zea hS hl hs ⟨w0,hw0⟩
   have hbd:∀ w,Win (gs.map symI) w→0≤totW w t.parts∧totW w t.parts≤264241152:=fun w hw=>by
     obtain⟨_,b1,b2⟩:=z2t (w:=w) hS.parts (fun p hp=>by
       have:=Ai (hS.parts p hp)
       exact (hS.syms _ (Au (by omega))).mem (hw.2 _ (by omega)))
     omega
   have hin:=z9k ((v2 _).2 ⟨w0,hw0,rfl⟩) (fun v hv=>by
     obtain⟨w,hw,rfl⟩:=(v2 v).1 hv;have:=hbd w hw
     omega)
   have hin2:B9 (Ba t (gs.map symI))=true↔∀ w,Win (gs.map symI) w→(D6 t w).isSome=true:=by
     rw[hin];constructor
     · intro h w hw
       rw[Jd hS hn hw,if_pos (h _ ((v2 _).2 ⟨w,hw,rfl⟩))];rfl
     · intro h v hv
       obtain⟨w,hw,rfl⟩:=(v2 v).1 hv;have:=h w hw;rw[Jd hS hn hw] at this;split at this
       · assumption
       · cases this
   have hne:(Ba t (gs.map symI)).length≠0:=fun h=>Wk ((v2 _).2 ⟨w0,hw0,rfl⟩) (List.eq_nil_of_length_eq_zero h);cases hi:B9 (Ba t (gs.map symI))
   · have e:Eq t gs=([],false):=by rw[Eq,hI];simp[hi]
     rw[e];rw[hi] at hin2;exact⟨hin2,fun _=>rfl,fun h=>by cases h⟩
   · have e:Eq t gs=(Om (imgL t.outer (Ba t (gs.map symI))) t.base,true):=by
       rw[Eq,hI];simp[hi,hne]
     rw[e];rw[hi] at hin2;refine⟨hin2,fun h=>(by cases h),fun _=>⟨?_,fun v=>?_⟩⟩
     · unfold Om
       split
       · exact⟨by simp,by simp⟩
       · exact (Av _).1
     · obtain⟨_,i2⟩:=z6b (Ba t (gs.map symI)) ho
       rw[zj1 (by omega),i2];constructor
       · rintro⟨⟨⟨x,h1,h2,h3⟩,_⟩,_⟩
         obtain⟨w,hw,rfl⟩:=(v2 x).1 h1;have hv:=hin.1 hi _ h1;exact⟨w,hw,by rw[Jd hS hn hw,if_pos hv,h3];congr 1;omega⟩
       · rintro⟨w,hw,h⟩
         have hm:=(v2 _).2 ⟨w,hw,rfl⟩;have hv:=hin.1 hi _ hm;rw[Jd hS hn hw,if_pos hv] at h;have hvs:=Ek ho (x:=t.sum+totW w t.parts) (by omega);simp only[Option.some.injEq] at h;exact⟨⟨⟨_,hm,by omega,by omega⟩,by omega⟩,by omega⟩
def E9 (s x:Int):Bool:=decide ((s=1∧0≤x∧x<256)∨(s=2∧0≤x∧x<1114112∧(x<55296∨57344≤x)))
theorem zjq (s x:Int) (hx:-2147483648≤x∧x≤2147483647):PC Tryz.prog 74 [.int .i64 s,.int .i32 x] (.bool (E9 s x)):=by
 refine A7 z88 ?_;unfold To;(with_reducible repeat' (first|(simp(disch:=omega)only[push_cast,↓zz,seval])|refine And.intro ?_ ?_|(first|refine Ab ?_ ?_|refine Aa ?_ ?_)<;>intro hc<;>(try simp only[push_cast] at hc)|omega|intro _))
 all_goals
   rw[E9]
   first
     | (rw[←decide_not,decide_eq_decide];omega)
     | (rw[decide_eq_decide];omega)
     | (rw[eq_comm,decide_eq_false_iff_not];omega)
     | (rw[eq_comm,decide_eq_true_eq];omega)
 all_goals trace_state
def fitW (t:Term) (o:Int) (w:List Int):Bool:=match D6 t w with
 | some v=>decide (0≤v∧v≤1114111)&&E9 o v
 | none=>false
theorem win_cons {g:List Span} {gs:List (List Span)} {w:List Int}:Win (g::gs) w↔∃ x r,w=x::r∧memL g x∧Win gs r:=by
 constructor
 · rintro⟨h1,h2⟩
   cases w with
   | nil=>simp at h1
   | cons x r =>
     refine⟨x,r,rfl,?_,by simpa using h1,fun i hi=>?_⟩
     · exact h2 0 (by simp)
     · exact h2 (i+1) (by simp;omega)
 · rintro⟨x,r,rfl,h1,h2⟩
   refine⟨by simp[h2.1],fun i hi=>?_⟩;cases i with
   | zero=>exact h1
   | succ i=>exact h2.2 i (by simp at hi;omega)
theorem zeb {w:List Int}:Win [] w↔w=[]:=by
 constructor
 · rintro⟨h,_⟩;exact List.eq_nil_of_length_eq_zero h
 · rintro rfl;exact⟨rfl,fun i hi=>by simp at hi⟩
theorem zq0 {l:List Span} {v:Int} (h:-1073741824≤v∧v≤1073741824):hasI l v=true↔memL l v:=by
 rw[Jw];exact⟨fun h=>h.2.2,fun hm=>⟨h.1,h.2,hm⟩⟩
theorem K5 {o v:Int}:memL (domL o) v↔E9 o v=true:=by
 unfold domL;simp only[E9,decide_eq_true_eq];split
 · rw[Aq];simp only[Bj,or_false];omega
 · split
   · rw[Aq,Aq];simp only[Bj,or_false];omega
   · simp only[Bj,false_iff];omega
theorem z6d {o v:Int} (h:E9 o v=true):0≤v∧v≤1114111:=by
 simp only[E9,decide_eq_true_eq] at h;omega
theorem Md {l d:List Span} (hl:∀ v,memL l v→-1073741824≤v∧v≤1073741824) (hp:Full l):It l d=[]↔∀ v,memL l v→memL d v:=by
 obtain⟨m1,m2⟩:=z8k l d;constructor
 · intro h v hv
   rw[h] at m2;exact Classical.byContradiction fun hn=>Bj v ((m2 v).2 ⟨hv,hl v hv,hn⟩)
 · intro h
   cases hm:It l d with
   | nil=>rfl
   | cons s r =>
     rw[hm] at m1 m2;obtain⟨a,_,c⟩:=(m2 s.lo).1 (Aq.2 (.inl ⟨Int.le_refl _,m1.1 s (by simp)⟩));exact absurd (h _ a) c
theorem Rr {t:Term} {i o n:Int} (h:Kc t i o n=true):Da t=true∧prtB t n=true:=by
 simp only[Kc,Gw,Bool.and_eq_true] at h;obtain⟨⟨⟨⟨_,hn⟩,hr⟩,_⟩,_⟩:=h;refine⟨hn,?_⟩;rw[prtB,List.all_eq_true];intro p hp;have:=List.all_eq_true.1 hr p hp;simp only[Bool.and_eq_true] at this;exact this.1
theorem z6e {t:Term} {gs:List (List Span)} (h4:gs.length≤4) (hn:Da t=true) (hp:prtB t gs.length=true) {w:List Int} {v:Int} (hw:Win (gs.map symI) w) (hv:D6 t w=some v):-1073741824≤v∧v≤1073741824:=by
 have hnum:=hn;simp only[Da,Bool.and_eq_true,decide_eq_true_eq] at hnum;have hbm:=Gg hnum.1.1.1;rw[Jd (Nc hp h4) hn hw] at hv;split at hv
 · have:=Ek hnum.1.2 (x:=t.sum+totW w t.parts) (by omega)
   simp only[Option.some.injEq] at hv;omega
 · cases hv
theorem Zu {t:Term} {i o:Int} {gs:List (List Span)} (h4:gs.length≤4):On t i o gs=true↔Kc t i o gs.length=true∧∀ w,Win (gs.map symI) w→fitW t o w=true:=by
 rw[On,Bool.and_eq_true,Bool.and_eq_true,decide_eq_true_eq];refine and_congr_right fun hr=>?_;obtain⟨hn,hp⟩:=Rr hr;obtain⟨s1,s2,s3⟩:=z9l h4 hn hp;constructor
 · rintro⟨hi,hm⟩ w hw
   obtain⟨p1,p2⟩:=s3 hi;rw[Md (fun v hv=>by obtain⟨w,h1,h2⟩:=(p2 v).1 hv;exact z6e h4 hn hp h1 h2) p1.1] at hm;have hv:=zid (s1.1 hi w hw);have:=K5.1 (hm _ ((p2 _).2 ⟨w,hw,hv⟩));have hb:=z6d this;rw[fitW,hv];simp[hb,this]
 · intro h
   have hi:(Eq t gs).2=true:=s1.2 fun w hw=>by
     have:=h w hw;rw[fitW] at this;cases hv:D6 t w with
     | none=>rw[hv] at this;cases this
     | some v=>rfl
   obtain⟨p1,p2⟩:=s3 hi;refine⟨hi,(Md (fun v hv=>by obtain⟨w,h1,h2⟩:=(p2 v).1 hv;exact z6e h4 hn hp h1 h2) p1.1).2 fun v hv=>?_⟩;obtain⟨w,h1,h2⟩:=(p2 v).1 hv;have:=h w h1;rw[fitW,h2] at this;simp only[Bool.and_eq_true] at this;exact K5.2 this.2
def shR (n:Int) (r:Rule):Rule:=⟨r.from_+n,r.to_+n,r.guards,r.eat,r.out⟩
def shF (n:Int) (f:Eu):Eu:=⟨f.from_+n,f.guards,f.out⟩
def Zv (a b:Desc):List Rule:=[⟨0,1+a.start,[],0,[]⟩,⟨0,1+a.states+b.start,[],0,[]⟩]
def Fa (a b:Desc):Desc:=⟨a.in_,a.out,1+a.states+b.states,0,Zv a b++a.rules.map (shR 1)++b.rules.map (shR (1+a.states)),a.finals.map (shF 1)++b.finals.map (shF (1+a.states))⟩
theorem El {d:Desc} (h:B6 d=0):Nf d=true∧(∀ r∈d.rules,Gy d r=true)∧∀ f∈d.finals,Fj d f=true:=by
 have h0:(Fq d).1=0:=by
   unfold B6 at h;split at h
   · assumption
   · omega
 unfold Fq at h0;split at h0
 · simp at h0
 · rename_i hh
   refine⟨by simpa using hh,?_⟩;split at h0
   · simp at h0
   · rename_i hr
     split at h0
     · simp at h0
     · rename_i hf
       exact⟨J0 hr,J0 hf⟩
theorem E5 {d:Desc} {out:List Term} {gs:List (List Span)} (h:Fi d out gs=true):out.length≤64∧∀ t∈out,t.parts.length≤4:=by
 simp only[Fi,Bool.and_eq_true,decide_eq_true_eq] at h;refine⟨by omega,fun t ht=>?_⟩;have:=List.all_eq_true.1 h.2 t ht;simp only[On,Bool.and_eq_true] at this;have h2:=(Rr this.1).1;simp only[Da,Bool.and_eq_true,decide_eq_true_eq] at h2;exact h2.2.2
theorem Me {α β:Type} [Inhabited α] (base:List β) (l:List α) (f:α→β):∃ g:Nat→List β,g 0=base∧(∀ k,k<l.length→g (k+1)=g k++[f (nth l k)])∧g l.length=base++l.map f∧∀ k,(g k).length≤base.length+k :=
 ⟨fun k=>base++(l.take k).map f,by simp,fun k hk=>by simp only;rw[take_at hk];simp,by simp only;rw[List.take_length],fun k=>by simp;omega⟩
theorem Zw {d:Desc} {r:Rule} (h:Gy d r=true):(0≤r.from_∧r.from_<d.states)∧(0≤r.to_∧r.to_<d.states)∧PC Tryz.prog 78 [Ao r.guards] (Ao r.guards)∧PC Tryz.prog 79 [Ea r.out] (Ea r.out):=by
 have h0:=z2p h;simp only[Gy,Bool.and_eq_true] at h;obtain⟨g1,g2⟩:=E4 h.2.2.1;obtain⟨w1,w2⟩:=E5 h.2.2.2.2;exact⟨h0.1,h0.2,Rm _ (by omega) fun g hg=>by have:=g2 g hg;omega,Ub _ (by omega) fun t ht=>by have:=w2 t ht;omega⟩
theorem Ue {d:Desc} {f:Eu} (h:Fj d f=true):(0≤f.from_∧f.from_<d.states)∧PC Tryz.prog 78 [Ao f.guards] (Ao f.guards)∧PC Tryz.prog 79 [Ea f.out] (Ea f.out):=by
 simp only[Fj,Hw,Bool.and_eq_true,decide_eq_true_eq] at h;obtain⟨g1,g2⟩:=E4 h.2.1;obtain⟨w1,w2⟩:=E5 h.2.2;exact⟨h.1,Rm _ (by omega) fun g hg=>by have:=g2 g hg;omega,Ub _ (by omega) fun t ht=>by have:=w2 t ht;omega⟩
theorem zec (a b:Desc) (ha:E1 a) (hb:E1 b) (ca:B6 a=0) (cb:B6 b=0) (hin:a.in_=b.in_) (hout:a.out=b.out) (h1:1+a.states+b.states≤1024) (h2:2+a.rules.length+b.rules.length≤4096) (h3:a.finals.length+b.finals.length≤4096) :
   PC Tryz.prog 35 [B2 a,B2 b] (.tup [B2 (Fa a b),.int .i64 0]):=by
 have hCa:=Fz a ha;have hCb:=Fz b hb;rw[ca] at hCa;rw[cb] at hCb;obtain⟨a1,a2,a3⟩:=El ca;obtain⟨b1,b2,b3⟩:=El cb;have a4:=Wi a1;have b4:=Wi b1;have pa1:=Az a.rules;have pa2:=As a.finals;have pb1:=Az b.rules;have pb2:=As b.finals;refine A7 Kw ?_;unfold Ie;(with_reducible repeat' (first|(simp(disch:=omega)only[push_cast,↓zz,seval,pa1,pa2,pb1,pb2,hin,hout])|refine And.intro ?_ ?_|(first|refine Ab ?_ ?_|refine Aa ?_ ?_)<;>intro hc<;>(try simp only[push_cast] at hc)|refine eK hCa ?_|refine eQ hCa ?_|refine eG hCa ?_|refine eK hCb ?_|refine eQ hCb ?_|refine eG hCb ?_|((first|refine cK hCa ?_|refine cQ hCa ?_|refine cG hCa ?_|refine cK hCb ?_|refine cQ hCb ?_|refine cG hCb ?_);(simp(disch:=omega)only[push_cast,↓zz,seval,pa1,pa2,pb1,pb2,hin,hout]);(fail_if_success change False))|omega|intro _));refine Bb 3 ?_;(with_reducible repeat' (first|(simp(disch:=omega)only[push_cast,↓zz,seval,pa1,pa2,pb1,pb2,hin,hout,Int.zero_mul,Int.one_mul,Int.add_zero])|refine And.intro ?_ ?_|(first|refine Ab ?_ ?_|refine Aa ?_ ?_)<;>intro hc<;>(try simp only[push_cast] at hc)|omega|intro _));obtain⟨g,g0,gs,ge0,gl⟩:=Me (Zv a b) a.rules (shR 1);refine Ax (A8 (fun (k:Nat)=>k≤a.rules.length) (fun k=>a.rules.length-k) (fun k=>[(2,.ptr 0 1 0 0),(4,.ptr 1 1 0 0),(7,.ptr 2 1 0 0),(9,.ptr 3 1 0 0),(10,.int .i64 1),(89,.agg [.int .i64 a.in_,.int .i64 a.out,.int .i64 a.states,.int .i64 a.start,Cz a.rules,Cw a.finals,.int .i64 b.in_,.int .i64 b.out,.int .i64 b.states,.int .i64 b.start,Cz b.rules,Cw b.finals]),(90,.int .i64 0),(100,Cz a.rules),(101,.int .i64 a.rules.length),(102,.int .i64 k)]) (fun k=>[⟨6,1,true,[B2 a]⟩,⟨6,1,true,[.agg [.int .i64 0,.int .i64 0,.int .i64 0,.int .i64 0,.nilS,.nilS]]⟩,⟨6,1,true,[.agg [.int .i64 a.in_,.int .i64 a.out,.int .i64 (1+a.states+b.states),.int .i64 0,.ref 4 1 0 (g k).length,.ref 5 1 0 (([]:List Eu)).length]]⟩,⟨6,1,true,[B2 a]⟩,⟨5,1,false,(g k).map Se⟩,⟨3,1,false,(([]:List Eu)).map J8⟩]) (fun env H=>[Bm 6 (env 2),Bm 6 (env 4),Bm 6 (env 7),Bm 6 (env 9),Bm 5 (cellAt H (env 7) 4),Bm 3 (cellAt H (env 7) 5)]) 0 (by simp) ?_ ?_)
 · (with_reducible repeat' (first|(simp(disch:=omega)only[push_cast,↓zz,seval,pa1,pa2,pb1,pb2,hin,hout,Int.zero_mul,Int.one_mul,Int.add_zero,g0,Zv])|refine And.intro ?_ ?_|(first|refine Ab ?_ ?_|refine Aa ?_ ?_)<;>intro hc<;>(try simp only[push_cast] at hc)|omega|intro _))
 intro k hk;have gk:=gl k;have hbl:(Zv a b).length≤2:=by simp[Zv]
 rcases Nat.lt_or_ge k a.rules.length with hkl|hkl
 · obtain⟨d1,d2,d3,d4⟩:=Zw (a2 _ (Au hkl))
   have e1:=gs k hkl;generalize hre:nth a.rules k=r at *;have hP:=Ah r.guards;have hT:=Bl r.out;have hpl:=Az (g k);refine W_T ?_;(with_reducible repeat' (first|(simp(disch:=omega)only[push_cast,↓zz,seval,pa1,pa2,pb1,pb2,hin,hout,Int.zero_mul,Int.one_mul,Int.add_zero,hre,hP,hT,hpl])|refine And.intro ?_ ?_|(first|refine Ab ?_ ?_|refine Aa ?_ ?_)<;>intro hc<;>(try simp only[push_cast] at hc)|refine eK d3 ?_|refine eQ d3 ?_|refine eG d3 ?_|refine eK d4 ?_|refine eQ d4 ?_|refine eG d4 ?_|((first|refine cK d3 ?_|refine cQ d3 ?_|refine cG d3 ?_|refine cK d4 ?_|refine cQ d4 ?_|refine cG d4 ?_);(simp(disch:=omega)only[push_cast,↓zz,seval,pa1,pa2,pb1,pb2,hin,hout,Int.zero_mul,Int.one_mul,Int.add_zero,hre,hP,hT,hpl]);(fail_if_success change False))|omega|intro _))
   all_goals
     refine⟨k+1,?_⟩;(with_reducible repeat' (first|(simp(disch:=omega)only[push_cast,↓zz,seval,e1,shR,pa1,pa2,pb1,pb2,hin,hout,Int.zero_mul,Int.one_mul,Int.add_zero])|refine And.intro ?_ ?_|(first|refine Ab ?_ ?_|refine Aa ?_ ?_)<;>intro hc<;>(try simp only[push_cast] at hc)|omega|intro _))
 have hke:k=a.rules.length:=by omega
 subst hke;have hpl0:=Az (g a.rules.length);have hll0:(g a.rules.length).length≤5000:=by omega
 clear hk hkl gk gl gs g0 hbl;generalize g a.rules.length=L0 at *;refine W_T ?_;(with_reducible repeat' (first|(simp(disch:=omega)only[push_cast,↓zz,seval,pa1,pa2,pb1,pb2,hin,hout,Int.zero_mul,Int.one_mul,Int.add_zero,hpl0])|refine And.intro ?_ ?_|(first|refine Ab ?_ ?_|refine Aa ?_ ?_)<;>intro hc<;>(try simp only[push_cast] at hc)|omega|intro _));obtain⟨g,g0,gs,gf0,gl⟩:=Me (([]:List Eu)) a.finals (shF 1);refine Ax (A8 (fun (k:Nat)=>k≤a.finals.length) (fun k=>a.finals.length-k) (fun k=>[(2,.ptr 0 1 0 0),(4,.ptr 1 1 0 0),(7,.ptr 2 1 0 0),(9,.ptr 3 1 0 0),(10,.int .i64 1),(89,.agg [.int .i64 a.in_,.int .i64 a.out,.int .i64 a.states,.int .i64 a.start,Cz a.rules,Cw a.finals,.int .i64 b.in_,.int .i64 b.out,.int .i64 b.states,.int .i64 b.start,Cz b.rules,Cw b.finals]),(90,.int .i64 0),(130,Cw a.finals),(131,.int .i64 a.finals.length),(132,.int .i64 k)]) (fun k=>[⟨6,1,true,[B2 a]⟩,⟨6,1,true,[.agg [.int .i64 0,.int .i64 0,.int .i64 0,.int .i64 0,.nilS,.nilS]]⟩,⟨6,1,true,[.agg [.int .i64 a.in_,.int .i64 a.out,.int .i64 (1+a.states+b.states),.int .i64 0,.ref 4 1 0 (L0).length,.ref 5 1 0 (g k).length]]⟩,⟨6,1,true,[B2 a]⟩,⟨5,1,false,(L0).map Se⟩,⟨3,1,false,(g k).map J8⟩]) (fun env H=>[Bm 6 (env 2),Bm 6 (env 4),Bm 6 (env 7),Bm 6 (env 9),Bm 5 (cellAt H (env 7) 4),Bm 3 (cellAt H (env 7) 5)]) 0 (by simp) ?_ ?_)
 · (with_reducible repeat' (first|(simp(disch:=omega)only[push_cast,↓zz,seval,pa1,pa2,pb1,pb2,hin,hout,Int.zero_mul,Int.one_mul,Int.add_zero,hpl0,g0])|refine And.intro ?_ ?_|(first|refine Ab ?_ ?_|refine Aa ?_ ?_)<;>intro hc<;>(try simp only[push_cast] at hc)|omega|intro _))
 intro k hk;have gk:=gl k;have hbl:(([]:List Eu)).length≤5000:=by simp
 rcases Nat.lt_or_ge k a.finals.length with hkl|hkl
 · obtain⟨d1,d3,d4⟩:=Ue (a3 _ (Au hkl))
   have e1:=gs k hkl;generalize hfe:nth a.finals k=f at *;have hP:=Ah f.guards;have hT:=Bl f.out;have hpf:=As (g k);refine W_T ?_;(with_reducible repeat' (first|(simp(disch:=omega)only[push_cast,↓zz,seval,pa1,pa2,pb1,pb2,hin,hout,Int.zero_mul,Int.one_mul,Int.add_zero,hfe,hP,hT,hpl0,hpf])|refine And.intro ?_ ?_|(first|refine Ab ?_ ?_|refine Aa ?_ ?_)<;>intro hc<;>(try simp only[push_cast] at hc)|refine eK d3 ?_|refine eQ d3 ?_|refine eG d3 ?_|refine eK d4 ?_|refine eQ d4 ?_|refine eG d4 ?_|((first|refine cK d3 ?_|refine cQ d3 ?_|refine cG d3 ?_|refine cK d4 ?_|refine cQ d4 ?_|refine cG d4 ?_);(simp(disch:=omega)only[push_cast,↓zz,seval,pa1,pa2,pb1,pb2,hin,hout,Int.zero_mul,Int.one_mul,Int.add_zero,hfe,hP,hT,hpl0,hpf]);(fail_if_success change False))|omega|intro _))
   all_goals
     refine⟨k+1,?_⟩;(with_reducible repeat' (first|(simp(disch:=omega)only[push_cast,↓zz,seval,e1,shF,pa1,pa2,pb1,pb2,hin,hout,Int.zero_mul,Int.one_mul,Int.add_zero])|refine And.intro ?_ ?_|(first|refine Ab ?_ ?_|refine Aa ?_ ?_)<;>intro hc<;>(try simp only[push_cast] at hc)|omega|intro _))
 have hke:k=a.finals.length:=by omega
 subst hke;have hpf0:=As (g a.finals.length);have hlf0:(g a.finals.length).length≤5000:=by simp at gk;omega
 clear hk hkl gk gl gs g0 hbl;generalize g a.finals.length=F0 at *;refine W_T ?_;(with_reducible repeat' (first|(simp(disch:=omega)only[push_cast,↓zz,seval,pa1,pa2,pb1,pb2,hin,hout,Int.zero_mul,Int.one_mul,Int.add_zero,hpl0,hpf0])|refine And.intro ?_ ?_|(first|refine Ab ?_ ?_|refine Aa ?_ ?_)<;>intro hc<;>(try simp only[push_cast] at hc)|omega|intro _));refine Am ?_;(with_reducible repeat' (first|(simp(disch:=omega)only[push_cast,↓zz,seval,pa1,pa2,pb1,pb2,hin,hout,Int.zero_mul,Int.one_mul,Int.add_zero,hpl0,hpf0])|refine And.intro ?_ ?_|(first|refine Ab ?_ ?_|refine Aa ?_ ?_)<;>intro hc<;>(try simp only[push_cast] at hc)|omega|intro _));obtain⟨g,g0,gs,ge1,gl⟩:=Me (L0) b.rules (shR (1+a.states));refine Ax (A8 (fun (k:Nat)=>k≤b.rules.length) (fun k=>b.rules.length-k) (fun k=>[(2,.ptr 0 1 0 0),(4,.ptr 1 1 0 0),(7,.ptr 2 1 0 0),(9,.ptr 3 1 0 0),(10,.int .i64 (1+a.states)),(89,.agg [.int .i64 a.in_,.int .i64 a.out,.int .i64 a.states,.int .i64 a.start,Cz a.rules,Cw a.finals,.int .i64 b.in_,.int .i64 b.out,.int .i64 b.states,.int .i64 b.start,Cz b.rules,Cw b.finals]),(90,.int .i64 1),(100,Cz b.rules),(101,.int .i64 b.rules.length),(102,.int .i64 k)]) (fun k=>[⟨6,1,true,[B2 a]⟩,⟨6,1,true,[.agg [.int .i64 0,.int .i64 0,.int .i64 0,.int .i64 0,.nilS,.nilS]]⟩,⟨6,1,true,[.agg [.int .i64 a.in_,.int .i64 a.out,.int .i64 (1+a.states+b.states),.int .i64 0,.ref 4 1 0 (g k).length,.ref 5 1 0 (F0).length]]⟩,⟨6,1,true,[B2 b]⟩,⟨5,1,false,(g k).map Se⟩,⟨3,1,false,(F0).map J8⟩]) (fun env H=>[Bm 6 (env 2),Bm 6 (env 4),Bm 6 (env 7),Bm 6 (env 9),Bm 5 (cellAt H (env 7) 4),Bm 3 (cellAt H (env 7) 5)]) 0 (by simp) ?_ ?_)
 · (with_reducible repeat' (first|(simp(disch:=omega)only[push_cast,↓zz,seval,pa1,pa2,pb1,pb2,hin,hout,Int.zero_mul,Int.one_mul,Int.add_zero,hpl0,hpf0,g0,Zv])|refine And.intro ?_ ?_|(first|refine Ab ?_ ?_|refine Aa ?_ ?_)<;>intro hc<;>(try simp only[push_cast] at hc)|omega|intro _))
 intro k hk;have gk:=gl k;have hbl:(L0).length≤5000:=by omega
 rcases Nat.lt_or_ge k b.rules.length with hkl|hkl
 · obtain⟨d1,d2,d3,d4⟩:=Zw (b2 _ (Au hkl))
   have e1:=gs k hkl;generalize hre:nth b.rules k=r at *;have hP:=Ah r.guards;have hT:=Bl r.out;have hpl:=Az (g k);refine W_T ?_;(with_reducible repeat' (first|(simp(disch:=omega)only[push_cast,↓zz,seval,pa1,pa2,pb1,pb2,hin,hout,Int.zero_mul,Int.one_mul,Int.add_zero,hpl0,hpf0,hre,hP,hT,hpl])|refine And.intro ?_ ?_|(first|refine Ab ?_ ?_|refine Aa ?_ ?_)<;>intro hc<;>(try simp only[push_cast] at hc)|refine eK d3 ?_|refine eQ d3 ?_|refine eG d3 ?_|refine eK d4 ?_|refine eQ d4 ?_|refine eG d4 ?_|((first|refine cK d3 ?_|refine cQ d3 ?_|refine cG d3 ?_|refine cK d4 ?_|refine cQ d4 ?_|refine cG d4 ?_);(simp(disch:=omega)only[push_cast,↓zz,seval,pa1,pa2,pb1,pb2,hin,hout,Int.zero_mul,Int.one_mul,Int.add_zero,hpl0,hpf0,hre,hP,hT,hpl]);(fail_if_success change False))|omega|intro _))
   all_goals
     refine⟨k+1,?_⟩;(with_reducible repeat' (first|(simp(disch:=omega)only[push_cast,↓zz,seval,e1,shR,pa1,pa2,pb1,pb2,hin,hout,Int.zero_mul,Int.one_mul,Int.add_zero,hpl0,hpf0])|refine And.intro ?_ ?_|(first|refine Ab ?_ ?_|refine Aa ?_ ?_)<;>intro hc<;>(try simp only[push_cast] at hc)|omega|intro _))
 have hke:k=b.rules.length:=by omega
 subst hke;have hpl1:=Az (g b.rules.length);have hll1:(g b.rules.length).length≤10000:=by omega
 clear hk hkl gk gl gs g0 hbl;generalize g b.rules.length=L1 at *;refine W_T ?_;(with_reducible repeat' (first|(simp(disch:=omega)only[push_cast,↓zz,seval,pa1,pa2,pb1,pb2,hin,hout,Int.zero_mul,Int.one_mul,Int.add_zero,hpl0,hpf0,hpl1])|refine And.intro ?_ ?_|(first|refine Ab ?_ ?_|refine Aa ?_ ?_)<;>intro hc<;>(try simp only[push_cast] at hc)|omega|intro _));obtain⟨g,g0,gs,gf1,gl⟩:=Me (F0) b.finals (shF (1+a.states));refine Ax (A8 (fun (k:Nat)=>k≤b.finals.length) (fun k=>b.finals.length-k) (fun k=>[(2,.ptr 0 1 0 0),(4,.ptr 1 1 0 0),(7,.ptr 2 1 0 0),(9,.ptr 3 1 0 0),(10,.int .i64 (1+a.states)),(89,.agg [.int .i64 a.in_,.int .i64 a.out,.int .i64 a.states,.int .i64 a.start,Cz a.rules,Cw a.finals,.int .i64 b.in_,.int .i64 b.out,.int .i64 b.states,.int .i64 b.start,Cz b.rules,Cw b.finals]),(90,.int .i64 1),(130,Cw b.finals),(131,.int .i64 b.finals.length),(132,.int .i64 k)]) (fun k=>[⟨6,1,true,[B2 a]⟩,⟨6,1,true,[.agg [.int .i64 0,.int .i64 0,.int .i64 0,.int .i64 0,.nilS,.nilS]]⟩,⟨6,1,true,[.agg [.int .i64 a.in_,.int .i64 a.out,.int .i64 (1+a.states+b.states),.int .i64 0,.ref 4 1 0 (L1).length,.ref 5 1 0 (g k).length]]⟩,⟨6,1,true,[B2 b]⟩,⟨5,1,false,(L1).map Se⟩,⟨3,1,false,(g k).map J8⟩]) (fun env H=>[Bm 6 (env 2),Bm 6 (env 4),Bm 6 (env 7),Bm 6 (env 9),Bm 5 (cellAt H (env 7) 4),Bm 3 (cellAt H (env 7) 5)]) 0 (by simp) ?_ ?_)
 · (with_reducible repeat' (first|(simp(disch:=omega)only[push_cast,↓zz,seval,pa1,pa2,pb1,pb2,hin,hout,Int.zero_mul,Int.one_mul,Int.add_zero,hpl0,hpf0,hpl1,g0])|refine And.intro ?_ ?_|(first|refine Ab ?_ ?_|refine Aa ?_ ?_)<;>intro hc<;>(try simp only[push_cast] at hc)|omega|intro _))
 intro k hk;have gk:=gl k;have hbl:(F0).length≤5000:=by omega
 rcases Nat.lt_or_ge k b.finals.length with hkl|hkl
 · obtain⟨d1,d3,d4⟩:=Ue (b3 _ (Au hkl))
   have e1:=gs k hkl;generalize hfe:nth b.finals k=f at *;have hP:=Ah f.guards;have hT:=Bl f.out;have hpf:=As (g k);refine W_T ?_;(with_reducible repeat' (first|(simp(disch:=omega)only[push_cast,↓zz,seval,pa1,pa2,pb1,pb2,hin,hout,Int.zero_mul,Int.one_mul,Int.add_zero,hpl0,hpf0,hfe,hP,hT,hpl1,hpf])|refine And.intro ?_ ?_|(first|refine Ab ?_ ?_|refine Aa ?_ ?_)<;>intro hc<;>(try simp only[push_cast] at hc)|refine eK d3 ?_|refine eQ d3 ?_|refine eG d3 ?_|refine eK d4 ?_|refine eQ d4 ?_|refine eG d4 ?_|((first|refine cK d3 ?_|refine cQ d3 ?_|refine cG d3 ?_|refine cK d4 ?_|refine cQ d4 ?_|refine cG d4 ?_);(simp(disch:=omega)only[push_cast,↓zz,seval,pa1,pa2,pb1,pb2,hin,hout,Int.zero_mul,Int.one_mul,Int.add_zero,hpl0,hpf0,hfe,hP,hT,hpl1,hpf]);(fail_if_success change False))|omega|intro _))
   all_goals
     refine⟨k+1,?_⟩;(with_reducible repeat' (first|(simp(disch:=omega)only[push_cast,↓zz,seval,e1,shF,pa1,pa2,pb1,pb2,hin,hout,Int.zero_mul,Int.one_mul,Int.add_zero,hpl0,hpf0])|refine And.intro ?_ ?_|(first|refine Ab ?_ ?_|refine Aa ?_ ?_)<;>intro hc<;>(try simp only[push_cast] at hc)|omega|intro _))
 have hke:k=b.finals.length:=by omega
 subst hke;have hpf1:=As (g b.finals.length);have hlf1:(g b.finals.length).length≤10000:=by omega
 clear hk hkl gk gl gs g0 hbl;generalize g b.finals.length=F1 at *;refine W_T ?_;(with_reducible repeat' (first|(simp(disch:=omega)only[push_cast,↓zz,seval,pa1,pa2,pb1,pb2,hin,hout,Int.zero_mul,Int.one_mul,Int.add_zero,hpl0,hpf0,hpl1,hpf1])|refine And.intro ?_ ?_|(first|refine Ab ?_ ?_|refine Aa ?_ ?_)<;>intro hc<;>(try simp only[push_cast] at hc)|omega|intro _));refine Am ?_;(with_reducible repeat' (first|(simp(disch:=omega)only[push_cast,↓zz,seval,pa1,pa2,pb1,pb2,hin,hout,Int.zero_mul,Int.one_mul,Int.add_zero,hpl0,hpf0,hpl1,hpf1])|refine And.intro ?_ ?_|(first|refine Ab ?_ ?_|refine Aa ?_ ?_)<;>intro hc<;>(try simp only[push_cast] at hc)|omega|intro _))
 have e:B2 (Fa a b)=.agg [.int .i64 a.in_,.int .i64 a.out,.int .i64 (1+a.states+b.states),.int .i64 0,Cz L1,Cw F1]:=by
   rw[ge1,gf1,ge0,gf0];rfl
 rw[e,hin,hout];(repeat' (first|(simp(disch:=omega)only[push_cast,↓zz,seval,B8])|omega|(with_reducible refine And.intro ?_ ?_)))
 all_goals trace_state
def fwdE (d:Desc):List (Int × Int):=d.rules.map fun r=>(r.from_,r.to_)
def bwdE (d:Desc):List (Int × Int):=d.rules.map fun r=>(r.to_,r.from_)
def endE (d:Desc):List Int:=d.finals.map (·.from_)
structure Wf (d:Desc):Prop where
 n:∃ n:Nat,d.states=n∧1≤n∧n≤1024
 start:0≤d.start∧d.start<d.states
 rl:d.rules.length≤4096
 fl:d.finals.length≤4096
 r:∀ r∈d.rules,(0≤r.from_∧r.from_<d.states)∧0≤r.to_∧r.to_<d.states
 f:∀ f∈d.finals,0≤f.from_∧f.from_<d.states
theorem Wl {d:Desc} (h:B6 d=0):Wf d:=by
 obtain⟨h1,h2,h3⟩:=El h;have h4:=Wi h1;refine⟨⟨d.states.toNat,by omega,by omega,by omega⟩,h4.2.2.2,h4.2.1,h4.2.2.1,fun r hr=>z2p (h2 r hr),fun f hf=>?_⟩;have:=h3 f hf;simp only[Fj,Hw,Bool.and_eq_true,decide_eq_true_eq] at this;exact this.1
noncomputable def comeL (d:Desc):List Bool:=zlm d.states.toNat [d.start] (fwdE d)
noncomputable def goL (d:Desc):List Bool:=zlm d.states.toNat (endE d) (bwdE d)
theorem Mf {α:Type} {p:α→Bool}:∀ {l:List α} {i:Nat},(∀ x∈l,p x=true)→Iv p l i=none
 | [],_,_=>rfl
 | x::l,i,h=>by rw[Iv,if_pos (h x (by simp)),Mf fun y hy=>h y (by simp[hy])]
theorem Io {d:Desc} (h1:Nf d=true) (h2:∀ r∈d.rules,Gy d r=true) (h3:∀ f∈d.finals,Fj d f=true) (h4:¬cycP d.rules d.states.toNat):Fq d=(0,0)∧B6 d=0:=by
 have e:Fq d=(0,0):=by
   rw[Fq,if_neg (by simp[h1]),Mf h2];simp only;rw[Mf h3];simp only;rw[if_neg h4]
 exact⟨e,by rw[B6,e];rfl⟩
theorem Wm (s:Int):Full (domL s)∧∀ v,memL (domL s) v→0≤v∧v≤1114111:=by
 refine⟨fun t ht=>?_,fun v hv=>z6d (K5.1 hv)⟩;unfold domL at ht;split at ht
 · simp at ht;subst ht;simp
 · split at ht
   · simp at ht;rcases ht with rfl|rfl<;>simp
   · cases ht
theorem z9m {s:Int} (hs:s=1∨s=2):Er s [domL s]=true:=by
 have hm:It (domL s) (domL s)=[]:=(Md (fun v hv=>by have:=(Wm s).2 v hv;omega) (Wm s).1).2 fun v hv=>hv;have hc:Zq (domL s)=true:=by rcases hs with rfl|rfl<;>decide
 simp only[Er,Rh,List.all_cons,List.all_nil,hm,hc];rcases hs with rfl|rfl<;>rfl
theorem Uf {x:Int} (hx:0≤x∧x≤1114111):D6 Rl [x]=some x:=by
 have hr:Do ⟨0,0,21,0⟩ 1=true:=by decide
 have hv:valP ⟨0,0,21,0⟩ x=x:=(Zb (p:=⟨0,0,21,0⟩) (by decide) (by omega)).2.2;have:=zdr (t:=Rl) (p:=⟨0,0,21,0⟩) (x:=x) rfl hr (by decide) (by decide) (by decide) hx;have ho:Rl.outer=⟨0,0,21,0⟩:=rfl;have hs:Rl.sum=0:=rfl;have hb:Rl.base=0:=rfl;rw[this,ho,hs,hb,hv,Int.zero_add,hv,if_pos hx,Int.zero_add]
theorem zed {s:Int} (hs:s=1∨s=2):On Rl s s [domL s]=true:=by
 refine (Zu (by simp)).2 ⟨by rcases hs with rfl|rfl<;>decide,fun w hw=>?_⟩;obtain⟨x,r,rfl,h1,h2⟩:=win_cons.1 hw;obtain rfl:=zeb.1 h2;have hm:=((Mb (domL s)).2 x).1 h1;rw[fitW,Uf hm.1];simp only[Bool.and_eq_true,decide_eq_true_eq];exact⟨hm.1,K5.1 hm.2⟩
theorem z2u {d:Desc} {s:Int} (hs:s=1∨s=2) (h1:d.in_=s) (h2:d.out=s):Fi d [Rl] [domL s]=true:=by
 simp[Fi,h1,h2,zed hs]
def Ed (a b:Int):Desc:=⟨a,b,1,0,[],[]⟩
theorem z9n {s:Int} (hs:s=1∨s=2):Fq (Es s)=(0,0)∧B6 (Es s)=0:=by
 refine Io (by rcases hs with rfl|rfl<;>decide) (fun r hr=>?_) (fun f hf=>?_) ?_
 · simp only[Es,List.mem_singleton] at hr
   subst hr;simp only[Gy,Bool.and_eq_true];exact⟨rfl,rfl,z9m hs,rfl,z2u hs rfl rfl⟩
 · simp only[Es,List.mem_singleton] at hf
   subst hf;simp[Fj,Hw,Er,Fi,Es]
 · rintro⟨C,hC,j,hj⟩
   obtain⟨_,r,hr,he,_⟩:=hC j hj;simp only[Es,List.mem_singleton] at hr;subst hr;simp[Cr] at he
theorem z2v {a b:Int} (ha:a=1∨a=2) (hb:b=1∨b=2):Fq (Ed a b)=(0,0)∧B6 (Ed a b)=0:=by
 refine Io (by rcases ha with rfl|rfl<;>rcases hb with rfl|rfl<;>decide) (fun r hr=>by cases hr) (fun f hf=>by cases hf) ?_;rintro⟨C,hC,j,hj⟩;obtain⟨_,r,hr,_⟩:=hC j hj;cases hr
structure zq1 (d:Desc) (k:Nat) (f:Bool) (w a l:Int):Prop where
 le:k≤d.rules.length
 fr:freeB d=(f&&(d.rules.drop k).all fun r=>!Cr r)
 wi:zu3 d=(d.rules.drop k).foldl widF w
 ah:zu4 d=(d.rules.drop k).foldl aheF a
 lo:longV d=d.finals.foldl lonG ((d.rules.drop k).foldl lonF l)
 nn:0≤a
theorem zq1.step {d:Desc} {k:Nat} {f:Bool} {w a l:Int} (h:zq1 d k f w a l) (hk:k<d.rules.length) {f2:Bool} {w2 a2 l2:Int} (e1:f2=(f&&!Cr (nth d.rules k))) (e2:w2=widF w (nth d.rules k)) (e3:a2=aheF a (nth d.rules k)) (e4:l2=lonF l (nth d.rules k)):zq1 d (k+1) f2 w2 a2 l2 where
 le:=by omega
 fr:=by rw[h.fr,drop_at hk,List.all_cons,e1,Bool.and_assoc]
 wi:=by rw[h.wi,fold_at hk,e2]
 ah:=by rw[h.ah,fold_at hk,e3]
 lo:=by rw[h.lo,fold_at hk,e4]
 nn:=by have:=h.nn;rw[e3,aheF];omega
end Go.Proofs.YtbcjoeadpjfcfaaGreat
namespace Go.Proofs.YtbcjoeadpjfcfaaGreat
open Abs
end Go.Proofs.YtbcjoeadpjfcfaaGreat
namespace Go.Proofs.YtbcjoeadpjfcfaaGreat
open Abs
structure GOk (i:Int) (gs:List (List Span)):Prop where
 len:gs.length≤4
 short:∀ g∈gs,g.length≤64
 some:∀ g∈gs,∃ v,memL g v
 dom:∀ g∈gs,∀ v,memL g v→E9 i v=true
theorem Ug:∀ {l:List Int} {a b:Int},Eo l→(∀ x∈l,a≤x∧x≤b)→a≤b+1→(l.length:Int)≤b-a+1
 | [],a,b,_,_,h=>by simp;omega
 | x::l,a,b,hr,hm,h=>by
   obtain⟨r1,r2⟩:=List.pairwise_cons.1 hr;have hx:=hm x (by simp);have:=Ug (a:=x+1) (b:=b) r2 (fun y hy=>by have:=r1 y hy;have:=hm y (by simp[hy]);omega) (by omega)
   push_cast [List.length_cons]
   omega
structure zu6 (now:List Int):Prop where
 ris:Eo now
 bd:∀ x∈now,-1114111≤x∧x≤1114111
 pos:0<now.length
theorem zu6.len {now:List Int} (h:zu6 now):now.length≤2228223:=by
 have:=Ug h.ris h.bd (by omega);omega
end Go.Proofs.YtbcjoeadpjfcfaaGreat
namespace Go.Proofs.YtbcjoeadpjfcfaaGreat
open Abs
structure TOk (t:Term) (i:Int) (gs:List (List Span)):Prop where
 parts:∀ p∈t.parts,Do p gs.length=true
 four:t.parts.length≤4
 sm:-1114111≤t.sum∧t.sum≤1114111
 sort:i=1∨(i=2∧t.parts.length≤1∧∀ p∈t.parts,I9 p=true)
theorem TOk.bits {t:Term} {i:Int} {gs:List (List Span)} (h:TOk t i gs):∀ p∈t.parts,Fh p=true:=fun p hp=>by
 have:=h.parts p hp;simp only[Do,Bool.and_eq_true] at this;exact this.2
theorem TOk.at {t:Term} {i:Int} {gs:List (List Span)} (h:TOk t i gs):∀ p∈t.parts,0≤p.at_∧p.at_<gs.length:=fun p hp=>Ai (h.parts p hp)
end Go.Proofs.YtbcjoeadpjfcfaaGreat
namespace Go.Proofs.YtbcjoeadpjfcfaaGreat
open Abs
end Go.Proofs.YtbcjoeadpjfcfaaGreat
