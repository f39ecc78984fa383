/-
  Parts of the proof that the law holds whatever the input; without conditions.
-/
import Derived.Test.YtbcjoeadpjfcfaaGreatEA6
import Derived.Test.YtbcjoeadpjfcfaaGreatEA5
set_option linter.unusedSimpArgs false
set_option linter.unusedVariables false
namespace Go.Proofs.YtbcjoeadpjfcfaaGreat
open Abs
theorem za4 (bs dr tk up sm:Int) (p0 p1 p2 p3:Part) (sets:List (List Span)) (hs:B3 sm=true) (hS:Cm [p0,p1,p2,p3] sets) (e1:p1.at_=p0.at_) (e2:p2.at_=p0.at_) (e3:p3.at_=p0.at_) :
   PC Tryz.prog 196 [Bo ⟨bs,dr,tk,up,sm,[p0,p1,p2,p3]⟩,Ak sets] (.tup [Ag (Bb ⟨bs,dr,tk,up,sm,[p0,p1,p2,p3]⟩ sets),.bool (B9 (Bb ⟨bs,dr,tk,up,sm,[p0,p1,p2,p3]⟩ sets))]):=by
 have hg:=Ad sets;have b0:=Ai (hS.parts p0 (by simp));have b1:=Ai (hS.parts p1 (by simp));have b2:=Ai (hS.parts p2 (by simp));have b3:=Ai (hS.parts p3 (by simp));have A0:=Ct hs;obtain⟨T1,P1,A1⟩:=Aj (a:=p0.at_) hS A0 (by omega) (by simp);have l1:atL [p0,p1,p2,p3] p0.at_=[p0,p1,p2,p3]:=by simp[atL,e1,e2,e3]
 rw[l1] at T1 P1;have hv:Bb ⟨bs,dr,tk,up,sm,[p0,p1,p2,p3]⟩ sets=Bc [p0,p1,p2,p3] sets ([⟨sm,sm⟩]) p0.at_:=by simp[Bb,B5,B2,e1,e2,e3]
 rw[hv];generalize ho1:Bc [p0,p1,p2,p3] sets ([⟨sm,sm⟩]) p0.at_=o1 at *;generalize ht1:togL [p0,p1,p2,p3] (nth sets p0.at_.toNat)=t1 at *;have hF:=Bn o1 (by have:=A1.2;omega);have hL:=By o1 (by have:=A1.2;omega);clear hS hv ho1 ht1 l1;refine A9 Ba ?_;unfold A6;(with_reducible repeat' (first|(simp(disch:=omega)only[push_cast,↓zz,seval])|refine And.intro ?_ ?_|(first|refine Ab ?_ ?_|refine Aa ?_ ?_)<;>intro hc<;>(try simp only[push_cast] at hc)|omega|intro _));refine A8 6 ?_;(with_reducible repeat' (first|(simp(disch:=omega)only[push_cast,↓zz,seval,xx,List.mem_cons,List.not_mem_nil,or_false,false_or,not_or,not_false_eq_true,true_or,or_true,Cb,setM,e1,e2,e3])|refine And.intro ?_ ?_|(first|refine Ab ?_ ?_|refine Aa ?_ ?_)<;>intro hc<;>(try simp only[push_cast] at hc)|refine Al ?_|refine B8 [1,5] ?_|omega|intro _));refine Bm 6 (fun env=>[A5 1 (env 6)]) [(1,Ak sets),(6,.map 0 1),(10,Ag [⟨sm,sm⟩]),(53,.lst 1 [.int .i64 p0.at_]),(54,.int .i64 1),(55,.int .i64 0)] [⟨0,1,true,[.int .i64 p0.at_,Bf [p0,p1,p2,p3]]⟩] ?_ ?_
 · (with_reducible repeat' (first|(simp(disch:=omega)only[push_cast,↓zz,seval,e1,e2,e3])|refine And.intro ?_ ?_|(first|refine Ab ?_ ?_|refine Aa ?_ ?_)<;>intro hc<;>(try simp only[push_cast] at hc)|omega|intro _))
   all_goals (simp only[Ca,e1,e2,e3];done)
 (with_reducible repeat' (first|(simp(disch:=omega)only[push_cast,↓zz,seval,Cb,B9,hg,e1,e2,e3])|refine And.intro ?_ ?_|(first|refine Ab ?_ ?_|refine Aa ?_ ?_)<;>intro hc<;>(try simp only[push_cast] at hc)|refine Al ?_|refine eQ T1 ?_|refine eQ P1 ?_|refine eK T1 ?_|refine eK P1 ?_|refine eK hF ?_|refine eK hL ?_|omega|intro _))
 all_goals ((try simp only[*,decide_true,decide_false,Bool.true_and,Bool.false_and]);(repeat' (first|(simp(disch:=omega)only[push_cast,↓zz,seval,Bq])|omega|(with_reducible refine And.intro ?_ ?_))))
theorem za5 (bs dr tk up sm:Int) (p0 p1 p2 p3:Part) (sets:List (List Span)) (hs:B3 sm=true) (hS:Cm [p0,p1,p2,p3] sets) (e1:p1.at_=p0.at_) (e2:p2.at_=p0.at_) (n03:¬p0.at_=p3.at_) :
   PC Tryz.prog 196 [Bo ⟨bs,dr,tk,up,sm,[p0,p1,p2,p3]⟩,Ak sets] (.tup [Ag (Bb ⟨bs,dr,tk,up,sm,[p0,p1,p2,p3]⟩ sets),.bool (B9 (Bb ⟨bs,dr,tk,up,sm,[p0,p1,p2,p3]⟩ sets))]):=by
 have hg:=Ad sets;have b0:=Ai (hS.parts p0 (by simp));have b1:=Ai (hS.parts p1 (by simp));have b2:=Ai (hS.parts p2 (by simp));have b3:=Ai (hS.parts p3 (by simp));have A0:=Ct hs;obtain⟨T1,P1,A1⟩:=Aj (a:=p0.at_) hS A0 (by omega) (by simp);have l1:atL [p0,p1,p2,p3] p0.at_=[p0,p1,p2]:=by simp[atL,e1,e2,n03,Ne.symm (show p0.at_≠p3.at_ from n03)]
 rw[l1] at T1 P1;obtain⟨T2,P2,A2⟩:=Aj (a:=p3.at_) hS A1 (by omega) (by simp);have l2:atL [p0,p1,p2,p3] p3.at_=[p3]:=by simp[atL,e1,e2,n03,Ne.symm (show p0.at_≠p3.at_ from n03)]
 rw[l2] at T2 P2;have hv:Bb ⟨bs,dr,tk,up,sm,[p0,p1,p2,p3]⟩ sets=Bc [p0,p1,p2,p3] sets (Bc [p0,p1,p2,p3] sets ([⟨sm,sm⟩]) p0.at_) p3.at_:=by simp[Bb,B5,B2,e1,e2,n03,Ne.symm (show p0.at_≠p3.at_ from n03)]
 rw[hv];generalize ho1:Bc [p0,p1,p2,p3] sets ([⟨sm,sm⟩]) p0.at_=o1 at *;generalize ht1:togL [p0,p1,p2] (nth sets p0.at_.toNat)=t1 at *;generalize ho2:Bc [p0,p1,p2,p3] sets (o1) p3.at_=o2 at *;generalize ht2:togL [p3] (nth sets p3.at_.toNat)=t2 at *;have hF:=Bn o2 (by have:=A2.2;omega);have hL:=By o2 (by have:=A2.2;omega);clear hS hv ho1 ht1 l1 ho2 ht2 l2;refine A9 Ba ?_;unfold A6;(with_reducible repeat' (first|(simp(disch:=omega)only[push_cast,↓zz,seval])|refine And.intro ?_ ?_|(first|refine Ab ?_ ?_|refine Aa ?_ ?_)<;>intro hc<;>(try simp only[push_cast] at hc)|omega|intro _));refine A8 6 ?_;(with_reducible repeat' (first|(simp(disch:=omega)only[push_cast,↓zz,seval,xx,List.mem_cons,List.not_mem_nil,or_false,false_or,not_or,not_false_eq_true,true_or,or_true,Cb,setM,e1,e2,n03])|refine And.intro ?_ ?_|(first|refine Ab ?_ ?_|refine Aa ?_ ?_)<;>intro hc<;>(try simp only[push_cast] at hc)|refine Al ?_|refine B8 [1,5] ?_|omega|intro _));refine Bm 6 (fun env=>[A5 1 (env 6)]) [(1,Ak sets),(6,.map 0 1),(10,Ag [⟨sm,sm⟩]),(53,.lst 1 [.int .i64 p0.at_,.int .i64 p3.at_]),(54,.int .i64 2),(55,.int .i64 0)] [⟨0,1,true,[.int .i64 p0.at_,Bf [p0,p1,p2],.int .i64 p3.at_,Bf [p3]]⟩] ?_ ?_
 · (with_reducible repeat' (first|(simp(disch:=omega)only[push_cast,↓zz,seval,e1,e2,n03])|refine And.intro ?_ ?_|(first|refine Ab ?_ ?_|refine Aa ?_ ?_)<;>intro hc<;>(try simp only[push_cast] at hc)|omega|intro _))
   all_goals (simp only[Ca,e1,e2,n03];done)
 (with_reducible repeat' (first|(simp(disch:=omega)only[push_cast,↓zz,seval,Cb,B9,hg,e1,e2,n03])|refine And.intro ?_ ?_|(first|refine Ab ?_ ?_|refine Aa ?_ ?_)<;>intro hc<;>(try simp only[push_cast] at hc)|refine Al ?_|refine eQ T1 ?_|refine eQ P1 ?_|refine eK T1 ?_|refine eK P1 ?_|refine eQ T2 ?_|refine eQ P2 ?_|refine eK T2 ?_|refine eK P2 ?_|refine eK hF ?_|refine eK hL ?_|omega|intro _))
 all_goals ((try simp only[*,decide_true,decide_false,Bool.true_and,Bool.false_and]);(repeat' (first|(simp(disch:=omega)only[push_cast,↓zz,seval,Bq])|omega|(with_reducible refine And.intro ?_ ?_))))
theorem za6 (bs dr tk up sm:Int) (p0 p1 p2 p3:Part) (sets:List (List Span)) (hs:B3 sm=true) (hS:Cm [p0,p1,p2,p3] sets) (e1:p1.at_=p0.at_) (e3:p3.at_=p0.at_) (n02:¬p0.at_=p2.at_) :
   PC Tryz.prog 196 [Bo ⟨bs,dr,tk,up,sm,[p0,p1,p2,p3]⟩,Ak sets] (.tup [Ag (Bb ⟨bs,dr,tk,up,sm,[p0,p1,p2,p3]⟩ sets),.bool (B9 (Bb ⟨bs,dr,tk,up,sm,[p0,p1,p2,p3]⟩ sets))]):=by
 have hg:=Ad sets;have b0:=Ai (hS.parts p0 (by simp));have b1:=Ai (hS.parts p1 (by simp));have b2:=Ai (hS.parts p2 (by simp));have b3:=Ai (hS.parts p3 (by simp));have A0:=Ct hs;obtain⟨T1,P1,A1⟩:=Aj (a:=p0.at_) hS A0 (by omega) (by simp);have l1:atL [p0,p1,p2,p3] p0.at_=[p0,p1,p3]:=by simp[atL,e1,e3,n02,Ne.symm (show p0.at_≠p2.at_ from n02)]
 rw[l1] at T1 P1;obtain⟨T2,P2,A2⟩:=Aj (a:=p2.at_) hS A1 (by omega) (by simp);have l2:atL [p0,p1,p2,p3] p2.at_=[p2]:=by simp[atL,e1,e3,n02,Ne.symm (show p0.at_≠p2.at_ from n02)]
 rw[l2] at T2 P2;have hv:Bb ⟨bs,dr,tk,up,sm,[p0,p1,p2,p3]⟩ sets=Bc [p0,p1,p2,p3] sets (Bc [p0,p1,p2,p3] sets ([⟨sm,sm⟩]) p0.at_) p2.at_:=by simp[Bb,B5,B2,e1,e3,n02,Ne.symm (show p0.at_≠p2.at_ from n02)]
 rw[hv];generalize ho1:Bc [p0,p1,p2,p3] sets ([⟨sm,sm⟩]) p0.at_=o1 at *;generalize ht1:togL [p0,p1,p3] (nth sets p0.at_.toNat)=t1 at *;generalize ho2:Bc [p0,p1,p2,p3] sets (o1) p2.at_=o2 at *;generalize ht2:togL [p2] (nth sets p2.at_.toNat)=t2 at *;have hF:=Bn o2 (by have:=A2.2;omega);have hL:=By o2 (by have:=A2.2;omega);clear hS hv ho1 ht1 l1 ho2 ht2 l2;refine A9 Ba ?_;unfold A6;(with_reducible repeat' (first|(simp(disch:=omega)only[push_cast,↓zz,seval])|refine And.intro ?_ ?_|(first|refine Ab ?_ ?_|refine Aa ?_ ?_)<;>intro hc<;>(try simp only[push_cast] at hc)|omega|intro _));refine A8 6 ?_;(with_reducible repeat' (first|(simp(disch:=omega)only[push_cast,↓zz,seval,xx,List.mem_cons,List.not_mem_nil,or_false,false_or,not_or,not_false_eq_true,true_or,or_true,Cb,setM,e1,e3,n02])|refine And.intro ?_ ?_|(first|refine Ab ?_ ?_|refine Aa ?_ ?_)<;>intro hc<;>(try simp only[push_cast] at hc)|refine Al ?_|refine B8 [1,5] ?_|omega|intro _));refine Bm 6 (fun env=>[A5 1 (env 6)]) [(1,Ak sets),(6,.map 0 1),(10,Ag [⟨sm,sm⟩]),(53,.lst 1 [.int .i64 p0.at_,.int .i64 p2.at_]),(54,.int .i64 2),(55,.int .i64 0)] [⟨0,1,true,[.int .i64 p0.at_,Bf [p0,p1,p3],.int .i64 p2.at_,Bf [p2]]⟩] ?_ ?_
 · (with_reducible repeat' (first|(simp(disch:=omega)only[push_cast,↓zz,seval,e1,e3,n02])|refine And.intro ?_ ?_|(first|refine Ab ?_ ?_|refine Aa ?_ ?_)<;>intro hc<;>(try simp only[push_cast] at hc)|omega|intro _))
   all_goals (simp only[Ca,e1,e3,n02];done)
 (with_reducible repeat' (first|(simp(disch:=omega)only[push_cast,↓zz,seval,Cb,B9,hg,e1,e3,n02])|refine And.intro ?_ ?_|(first|refine Ab ?_ ?_|refine Aa ?_ ?_)<;>intro hc<;>(try simp only[push_cast] at hc)|refine Al ?_|refine eQ T1 ?_|refine eQ P1 ?_|refine eK T1 ?_|refine eK P1 ?_|refine eQ T2 ?_|refine eQ P2 ?_|refine eK T2 ?_|refine eK P2 ?_|refine eK hF ?_|refine eK hL ?_|omega|intro _))
 all_goals ((try simp only[*,decide_true,decide_false,Bool.true_and,Bool.false_and]);(repeat' (first|(simp(disch:=omega)only[push_cast,↓zz,seval,Bq])|omega|(with_reducible refine And.intro ?_ ?_))))
theorem za7 (bs dr tk up sm:Int) (p0 p1 p2 p3:Part) (sets:List (List Span)) (hs:B3 sm=true) (hS:Cm [p0,p1,p2,p3] sets) (e1:p1.at_=p0.at_) (e3:p3.at_=p2.at_) (n02:¬p0.at_=p2.at_) :
   PC Tryz.prog 196 [Bo ⟨bs,dr,tk,up,sm,[p0,p1,p2,p3]⟩,Ak sets] (.tup [Ag (Bb ⟨bs,dr,tk,up,sm,[p0,p1,p2,p3]⟩ sets),.bool (B9 (Bb ⟨bs,dr,tk,up,sm,[p0,p1,p2,p3]⟩ sets))]):=by
 have hg:=Ad sets;have b0:=Ai (hS.parts p0 (by simp));have b1:=Ai (hS.parts p1 (by simp));have b2:=Ai (hS.parts p2 (by simp));have b3:=Ai (hS.parts p3 (by simp));have A0:=Ct hs;obtain⟨T1,P1,A1⟩:=Aj (a:=p0.at_) hS A0 (by omega) (by simp);have l1:atL [p0,p1,p2,p3] p0.at_=[p0,p1]:=by simp[atL,e1,e3,n02,Ne.symm (show p0.at_≠p2.at_ from n02)]
 rw[l1] at T1 P1;obtain⟨T2,P2,A2⟩:=Aj (a:=p2.at_) hS A1 (by omega) (by simp);have l2:atL [p0,p1,p2,p3] p2.at_=[p2,p3]:=by simp[atL,e1,e3,n02,Ne.symm (show p0.at_≠p2.at_ from n02)]
 rw[l2] at T2 P2;have hv:Bb ⟨bs,dr,tk,up,sm,[p0,p1,p2,p3]⟩ sets=Bc [p0,p1,p2,p3] sets (Bc [p0,p1,p2,p3] sets ([⟨sm,sm⟩]) p0.at_) p2.at_:=by simp[Bb,B5,B2,e1,e3,n02,Ne.symm (show p0.at_≠p2.at_ from n02)]
 rw[hv];generalize ho1:Bc [p0,p1,p2,p3] sets ([⟨sm,sm⟩]) p0.at_=o1 at *;generalize ht1:togL [p0,p1] (nth sets p0.at_.toNat)=t1 at *;generalize ho2:Bc [p0,p1,p2,p3] sets (o1) p2.at_=o2 at *;generalize ht2:togL [p2,p3] (nth sets p2.at_.toNat)=t2 at *;have hF:=Bn o2 (by have:=A2.2;omega);have hL:=By o2 (by have:=A2.2;omega);clear hS hv ho1 ht1 l1 ho2 ht2 l2;refine A9 Ba ?_;unfold A6;(with_reducible repeat' (first|(simp(disch:=omega)only[push_cast,↓zz,seval])|refine And.intro ?_ ?_|(first|refine Ab ?_ ?_|refine Aa ?_ ?_)<;>intro hc<;>(try simp only[push_cast] at hc)|omega|intro _));refine A8 6 ?_;(with_reducible repeat' (first|(simp(disch:=omega)only[push_cast,↓zz,seval,xx,List.mem_cons,List.not_mem_nil,or_false,false_or,not_or,not_false_eq_true,true_or,or_true,Cb,setM,e1,e3,n02])|refine And.intro ?_ ?_|(first|refine Ab ?_ ?_|refine Aa ?_ ?_)<;>intro hc<;>(try simp only[push_cast] at hc)|refine Al ?_|refine B8 [1,5,9] ?_|omega|intro _));refine Bm 6 (fun env=>[A5 1 (env 6)]) [(1,Ak sets),(6,.map 0 1),(10,Ag [⟨sm,sm⟩]),(53,.lst 1 [.int .i64 p0.at_,.int .i64 p2.at_]),(54,.int .i64 2),(55,.int .i64 0)] [⟨0,1,true,[.int .i64 p0.at_,Bf [p0,p1],.int .i64 p2.at_,Bf [p2,p3]]⟩] ?_ ?_
 · (with_reducible repeat' (first|(simp(disch:=omega)only[push_cast,↓zz,seval,e1,e3,n02])|refine And.intro ?_ ?_|(first|refine Ab ?_ ?_|refine Aa ?_ ?_)<;>intro hc<;>(try simp only[push_cast] at hc)|omega|intro _))
   all_goals (simp only[Ca,e1,e3,n02];done)
 (with_reducible repeat' (first|(simp(disch:=omega)only[push_cast,↓zz,seval,Cb,B9,hg,e1,e3,n02])|refine And.intro ?_ ?_|(first|refine Ab ?_ ?_|refine Aa ?_ ?_)<;>intro hc<;>(try simp only[push_cast] at hc)|refine Al ?_|refine eQ T1 ?_|refine eQ P1 ?_|refine eK T1 ?_|refine eK P1 ?_|refine eQ T2 ?_|refine eQ P2 ?_|refine eK T2 ?_|refine eK P2 ?_|refine eK hF ?_|refine eK hL ?_|omega|intro _))
 all_goals ((try simp only[*,decide_true,decide_false,Bool.true_and,Bool.false_and]);(repeat' (first|(simp(disch:=omega)only[push_cast,↓zz,seval,Bq])|omega|(with_reducible refine And.intro ?_ ?_))))
theorem za8 (bs dr tk up sm:Int) (p0 p1 p2 p3:Part) (sets:List (List Span)) (hs:B3 sm=true) (hS:Cm [p0,p1,p2,p3] sets) (e1:p1.at_=p0.at_) (n02:¬p0.at_=p2.at_) (n03:¬p0.at_=p3.at_) (n23:¬p2.at_=p3.at_) :
   PC Tryz.prog 196 [Bo ⟨bs,dr,tk,up,sm,[p0,p1,p2,p3]⟩,Ak sets] (.tup [Ag (Bb ⟨bs,dr,tk,up,sm,[p0,p1,p2,p3]⟩ sets),.bool (B9 (Bb ⟨bs,dr,tk,up,sm,[p0,p1,p2,p3]⟩ sets))]):=by
 have hg:=Ad sets;have b0:=Ai (hS.parts p0 (by simp));have b1:=Ai (hS.parts p1 (by simp));have b2:=Ai (hS.parts p2 (by simp));have b3:=Ai (hS.parts p3 (by simp));have A0:=Ct hs;obtain⟨T1,P1,A1⟩:=Aj (a:=p0.at_) hS A0 (by omega) (by simp);have l1:atL [p0,p1,p2,p3] p0.at_=[p0,p1]:=by simp[atL,e1,n02,n03,n23,Ne.symm (show p0.at_≠p2.at_ from n02),Ne.symm (show p0.at_≠p3.at_ from n03),Ne.symm (show p2.at_≠p3.at_ from n23)]
 rw[l1] at T1 P1;obtain⟨T2,P2,A2⟩:=Aj (a:=p2.at_) hS A1 (by omega) (by simp);have l2:atL [p0,p1,p2,p3] p2.at_=[p2]:=by simp[atL,e1,n02,n03,n23,Ne.symm (show p0.at_≠p2.at_ from n02),Ne.symm (show p0.at_≠p3.at_ from n03),Ne.symm (show p2.at_≠p3.at_ from n23)]
 rw[l2] at T2 P2;obtain⟨T3,P3,A3⟩:=Aj (a:=p3.at_) hS A2 (by omega) (by simp);have l3:atL [p0,p1,p2,p3] p3.at_=[p3]:=by simp[atL,e1,n02,n03,n23,Ne.symm (show p0.at_≠p2.at_ from n02),Ne.symm (show p0.at_≠p3.at_ from n03),Ne.symm (show p2.at_≠p3.at_ from n23)]
 rw[l3] at T3 P3;have hv:Bb ⟨bs,dr,tk,up,sm,[p0,p1,p2,p3]⟩ sets=Bc [p0,p1,p2,p3] sets (Bc [p0,p1,p2,p3] sets (Bc [p0,p1,p2,p3] sets ([⟨sm,sm⟩]) p0.at_) p2.at_) p3.at_:=by simp[Bb,B5,B2,e1,n02,n03,n23,Ne.symm (show p0.at_≠p2.at_ from n02),Ne.symm (show p0.at_≠p3.at_ from n03),Ne.symm (show p2.at_≠p3.at_ from n23)]
 rw[hv];generalize ho1:Bc [p0,p1,p2,p3] sets ([⟨sm,sm⟩]) p0.at_=o1 at *;generalize ht1:togL [p0,p1] (nth sets p0.at_.toNat)=t1 at *;generalize ho2:Bc [p0,p1,p2,p3] sets (o1) p2.at_=o2 at *;generalize ht2:togL [p2] (nth sets p2.at_.toNat)=t2 at *;generalize ho3:Bc [p0,p1,p2,p3] sets (o2) p3.at_=o3 at *;generalize ht3:togL [p3] (nth sets p3.at_.toNat)=t3 at *;have hF:=Bn o3 (by have:=A3.2;omega);have hL:=By o3 (by have:=A3.2;omega);clear hS hv ho1 ht1 l1 ho2 ht2 l2 ho3 ht3 l3;refine A9 Ba ?_;unfold A6;(with_reducible repeat' (first|(simp(disch:=omega)only[push_cast,↓zz,seval])|refine And.intro ?_ ?_|(first|refine Ab ?_ ?_|refine Aa ?_ ?_)<;>intro hc<;>(try simp only[push_cast] at hc)|omega|intro _));refine A8 6 ?_;(with_reducible repeat' (first|(simp(disch:=omega)only[push_cast,↓zz,seval,xx,List.mem_cons,List.not_mem_nil,or_false,false_or,not_or,not_false_eq_true,true_or,or_true,Cb,setM,e1,n02,n03,n23])|refine And.intro ?_ ?_|(first|refine Ab ?_ ?_|refine Aa ?_ ?_)<;>intro hc<;>(try simp only[push_cast] at hc)|refine Al ?_|refine B8 [1,5] ?_|omega|intro _));refine Bm 6 (fun env=>[A5 1 (env 6)]) [(1,Ak sets),(6,.map 0 1),(10,Ag [⟨sm,sm⟩]),(53,.lst 1 [.int .i64 p0.at_,.int .i64 p2.at_,.int .i64 p3.at_]),(54,.int .i64 3),(55,.int .i64 0)] [⟨0,1,true,[.int .i64 p0.at_,Bf [p0,p1],.int .i64 p2.at_,Bf [p2],.int .i64 p3.at_,Bf [p3]]⟩] ?_ ?_
 · (with_reducible repeat' (first|(simp(disch:=omega)only[push_cast,↓zz,seval,e1,n02,n03,n23])|refine And.intro ?_ ?_|(first|refine Ab ?_ ?_|refine Aa ?_ ?_)<;>intro hc<;>(try simp only[push_cast] at hc)|omega|intro _))
   all_goals (simp only[Ca,e1,n02,n03,n23];done)
 (with_reducible repeat' (first|(simp(disch:=omega)only[push_cast,↓zz,seval,Cb,B9,hg,e1,n02,n03,n23])|refine And.intro ?_ ?_|(first|refine Ab ?_ ?_|refine Aa ?_ ?_)<;>intro hc<;>(try simp only[push_cast] at hc)|refine Al ?_|refine eQ T1 ?_|refine eQ P1 ?_|refine eK T1 ?_|refine eK P1 ?_|refine eQ T2 ?_|refine eQ P2 ?_|refine eK T2 ?_|refine eK P2 ?_|refine eQ T3 ?_|refine eQ P3 ?_|refine eK T3 ?_|refine eK P3 ?_|refine eK hF ?_|refine eK hL ?_|omega|intro _))
 all_goals ((try simp only[*,decide_true,decide_false,Bool.true_and,Bool.false_and]);(repeat' (first|(simp(disch:=omega)only[push_cast,↓zz,seval,Bq])|omega|(with_reducible refine And.intro ?_ ?_))))
theorem za9 (bs dr tk up sm:Int) (p0 p1 p2 p3:Part) (sets:List (List Span)) (hs:B3 sm=true) (hS:Cm [p0,p1,p2,p3] sets) (e2:p2.at_=p0.at_) (e3:p3.at_=p0.at_) (n01:¬p0.at_=p1.at_) :
   PC Tryz.prog 196 [Bo ⟨bs,dr,tk,up,sm,[p0,p1,p2,p3]⟩,Ak sets] (.tup [Ag (Bb ⟨bs,dr,tk,up,sm,[p0,p1,p2,p3]⟩ sets),.bool (B9 (Bb ⟨bs,dr,tk,up,sm,[p0,p1,p2,p3]⟩ sets))]):=by
 have hg:=Ad sets;have b0:=Ai (hS.parts p0 (by simp));have b1:=Ai (hS.parts p1 (by simp));have b2:=Ai (hS.parts p2 (by simp));have b3:=Ai (hS.parts p3 (by simp));have A0:=Ct hs;obtain⟨T1,P1,A1⟩:=Aj (a:=p0.at_) hS A0 (by omega) (by simp);have l1:atL [p0,p1,p2,p3] p0.at_=[p0,p2,p3]:=by simp[atL,e2,e3,n01,Ne.symm (show p0.at_≠p1.at_ from n01)]
 rw[l1] at T1 P1;obtain⟨T2,P2,A2⟩:=Aj (a:=p1.at_) hS A1 (by omega) (by simp);have l2:atL [p0,p1,p2,p3] p1.at_=[p1]:=by simp[atL,e2,e3,n01,Ne.symm (show p0.at_≠p1.at_ from n01)]
 rw[l2] at T2 P2;have hv:Bb ⟨bs,dr,tk,up,sm,[p0,p1,p2,p3]⟩ sets=Bc [p0,p1,p2,p3] sets (Bc [p0,p1,p2,p3] sets ([⟨sm,sm⟩]) p0.at_) p1.at_:=by simp[Bb,B5,B2,e2,e3,n01,Ne.symm (show p0.at_≠p1.at_ from n01)]
 rw[hv];generalize ho1:Bc [p0,p1,p2,p3] sets ([⟨sm,sm⟩]) p0.at_=o1 at *;generalize ht1:togL [p0,p2,p3] (nth sets p0.at_.toNat)=t1 at *;generalize ho2:Bc [p0,p1,p2,p3] sets (o1) p1.at_=o2 at *;generalize ht2:togL [p1] (nth sets p1.at_.toNat)=t2 at *;have hF:=Bn o2 (by have:=A2.2;omega);have hL:=By o2 (by have:=A2.2;omega);clear hS hv ho1 ht1 l1 ho2 ht2 l2;refine A9 Ba ?_;unfold A6;(with_reducible repeat' (first|(simp(disch:=omega)only[push_cast,↓zz,seval])|refine And.intro ?_ ?_|(first|refine Ab ?_ ?_|refine Aa ?_ ?_)<;>intro hc<;>(try simp only[push_cast] at hc)|omega|intro _));refine A8 6 ?_;(with_reducible repeat' (first|(simp(disch:=omega)only[push_cast,↓zz,seval,xx,List.mem_cons,List.not_mem_nil,or_false,false_or,not_or,not_false_eq_true,true_or,or_true,Cb,setM,e2,e3,n01])|refine And.intro ?_ ?_|(first|refine Ab ?_ ?_|refine Aa ?_ ?_)<;>intro hc<;>(try simp only[push_cast] at hc)|refine Al ?_|refine B8 [1,5] ?_|omega|intro _));refine Bm 6 (fun env=>[A5 1 (env 6)]) [(1,Ak sets),(6,.map 0 1),(10,Ag [⟨sm,sm⟩]),(53,.lst 1 [.int .i64 p0.at_,.int .i64 p1.at_]),(54,.int .i64 2),(55,.int .i64 0)] [⟨0,1,true,[.int .i64 p0.at_,Bf [p0,p2,p3],.int .i64 p1.at_,Bf [p1]]⟩] ?_ ?_
 · (with_reducible repeat' (first|(simp(disch:=omega)only[push_cast,↓zz,seval,e2,e3,n01])|refine And.intro ?_ ?_|(first|refine Ab ?_ ?_|refine Aa ?_ ?_)<;>intro hc<;>(try simp only[push_cast] at hc)|omega|intro _))
   all_goals (simp only[Ca,e2,e3,n01];done)
 (with_reducible repeat' (first|(simp(disch:=omega)only[push_cast,↓zz,seval,Cb,B9,hg,e2,e3,n01])|refine And.intro ?_ ?_|(first|refine Ab ?_ ?_|refine Aa ?_ ?_)<;>intro hc<;>(try simp only[push_cast] at hc)|refine Al ?_|refine eQ T1 ?_|refine eQ P1 ?_|refine eK T1 ?_|refine eK P1 ?_|refine eQ T2 ?_|refine eQ P2 ?_|refine eK T2 ?_|refine eK P2 ?_|refine eK hF ?_|refine eK hL ?_|omega|intro _))
 all_goals ((try simp only[*,decide_true,decide_false,Bool.true_and,Bool.false_and]);(repeat' (first|(simp(disch:=omega)only[push_cast,↓zz,seval,Bq])|omega|(with_reducible refine And.intro ?_ ?_))))
theorem zaa (bs dr tk up sm:Int) (p0 p1 p2 p3:Part) (sets:List (List Span)) (hs:B3 sm=true) (hS:Cm [p0,p1,p2,p3] sets) (e2:p2.at_=p0.at_) (e3:p3.at_=p1.at_) (n01:¬p0.at_=p1.at_) :
   PC Tryz.prog 196 [Bo ⟨bs,dr,tk,up,sm,[p0,p1,p2,p3]⟩,Ak sets] (.tup [Ag (Bb ⟨bs,dr,tk,up,sm,[p0,p1,p2,p3]⟩ sets),.bool (B9 (Bb ⟨bs,dr,tk,up,sm,[p0,p1,p2,p3]⟩ sets))]):=by
 have hg:=Ad sets;have b0:=Ai (hS.parts p0 (by simp));have b1:=Ai (hS.parts p1 (by simp));have b2:=Ai (hS.parts p2 (by simp));have b3:=Ai (hS.parts p3 (by simp));have A0:=Ct hs;obtain⟨T1,P1,A1⟩:=Aj (a:=p0.at_) hS A0 (by omega) (by simp);have l1:atL [p0,p1,p2,p3] p0.at_=[p0,p2]:=by simp[atL,e2,e3,n01,Ne.symm (show p0.at_≠p1.at_ from n01)]
 rw[l1] at T1 P1;obtain⟨T2,P2,A2⟩:=Aj (a:=p1.at_) hS A1 (by omega) (by simp);have l2:atL [p0,p1,p2,p3] p1.at_=[p1,p3]:=by simp[atL,e2,e3,n01,Ne.symm (show p0.at_≠p1.at_ from n01)]
 rw[l2] at T2 P2;have hv:Bb ⟨bs,dr,tk,up,sm,[p0,p1,p2,p3]⟩ sets=Bc [p0,p1,p2,p3] sets (Bc [p0,p1,p2,p3] sets ([⟨sm,sm⟩]) p0.at_) p1.at_:=by simp[Bb,B5,B2,e2,e3,n01,Ne.symm (show p0.at_≠p1.at_ from n01)]
 rw[hv];generalize ho1:Bc [p0,p1,p2,p3] sets ([⟨sm,sm⟩]) p0.at_=o1 at *;generalize ht1:togL [p0,p2] (nth sets p0.at_.toNat)=t1 at *;generalize ho2:Bc [p0,p1,p2,p3] sets (o1) p1.at_=o2 at *;generalize ht2:togL [p1,p3] (nth sets p1.at_.toNat)=t2 at *;have hF:=Bn o2 (by have:=A2.2;omega);have hL:=By o2 (by have:=A2.2;omega);clear hS hv ho1 ht1 l1 ho2 ht2 l2;refine A9 Ba ?_;unfold A6;(with_reducible repeat' (first|(simp(disch:=omega)only[push_cast,↓zz,seval])|refine And.intro ?_ ?_|(first|refine Ab ?_ ?_|refine Aa ?_ ?_)<;>intro hc<;>(try simp only[push_cast] at hc)|omega|intro _));refine A8 6 ?_;(with_reducible repeat' (first|(simp(disch:=omega)only[push_cast,↓zz,seval,xx,List.mem_cons,List.not_mem_nil,or_false,false_or,not_or,not_false_eq_true,true_or,or_true,Cb,setM,e2,e3,n01])|refine And.intro ?_ ?_|(first|refine Ab ?_ ?_|refine Aa ?_ ?_)<;>intro hc<;>(try simp only[push_cast] at hc)|refine Al ?_|refine B8 [1,5,8] ?_|omega|intro _));refine Bm 6 (fun env=>[A5 1 (env 6)]) [(1,Ak sets),(6,.map 0 1),(10,Ag [⟨sm,sm⟩]),(53,.lst 1 [.int .i64 p0.at_,.int .i64 p1.at_]),(54,.int .i64 2),(55,.int .i64 0)] [⟨0,1,true,[.int .i64 p0.at_,Bf [p0,p2],.int .i64 p1.at_,Bf [p1,p3]]⟩] ?_ ?_
 · (with_reducible repeat' (first|(simp(disch:=omega)only[push_cast,↓zz,seval,e2,e3,n01])|refine And.intro ?_ ?_|(first|refine Ab ?_ ?_|refine Aa ?_ ?_)<;>intro hc<;>(try simp only[push_cast] at hc)|omega|intro _))
   all_goals (simp only[Ca,e2,e3,n01];done)
 (with_reducible repeat' (first|(simp(disch:=omega)only[push_cast,↓zz,seval,Cb,B9,hg,e2,e3,n01])|refine And.intro ?_ ?_|(first|refine Ab ?_ ?_|refine Aa ?_ ?_)<;>intro hc<;>(try simp only[push_cast] at hc)|refine Al ?_|refine eQ T1 ?_|refine eQ P1 ?_|refine eK T1 ?_|refine eK P1 ?_|refine eQ T2 ?_|refine eQ P2 ?_|refine eK T2 ?_|refine eK P2 ?_|refine eK hF ?_|refine eK hL ?_|omega|intro _))
 all_goals ((try simp only[*,decide_true,decide_false,Bool.true_and,Bool.false_and]);(repeat' (first|(simp(disch:=omega)only[push_cast,↓zz,seval,Bq])|omega|(with_reducible refine And.intro ?_ ?_))))
theorem zab (bs dr tk up sm:Int) (p0 p1 p2 p3:Part) (sets:List (List Span)) (hs:B3 sm=true) (hS:Cm [p0,p1,p2,p3] sets) (e2:p2.at_=p0.at_) (n01:¬p0.at_=p1.at_) (n03:¬p0.at_=p3.at_) (n13:¬p1.at_=p3.at_) :
   PC Tryz.prog 196 [Bo ⟨bs,dr,tk,up,sm,[p0,p1,p2,p3]⟩,Ak sets] (.tup [Ag (Bb ⟨bs,dr,tk,up,sm,[p0,p1,p2,p3]⟩ sets),.bool (B9 (Bb ⟨bs,dr,tk,up,sm,[p0,p1,p2,p3]⟩ sets))]):=by
 have hg:=Ad sets;have b0:=Ai (hS.parts p0 (by simp));have b1:=Ai (hS.parts p1 (by simp));have b2:=Ai (hS.parts p2 (by simp));have b3:=Ai (hS.parts p3 (by simp));have A0:=Ct hs;obtain⟨T1,P1,A1⟩:=Aj (a:=p0.at_) hS A0 (by omega) (by simp);have l1:atL [p0,p1,p2,p3] p0.at_=[p0,p2]:=by simp[atL,e2,n01,n03,n13,Ne.symm (show p0.at_≠p1.at_ from n01),Ne.symm (show p0.at_≠p3.at_ from n03),Ne.symm (show p1.at_≠p3.at_ from n13)]
 rw[l1] at T1 P1;obtain⟨T2,P2,A2⟩:=Aj (a:=p1.at_) hS A1 (by omega) (by simp);have l2:atL [p0,p1,p2,p3] p1.at_=[p1]:=by simp[atL,e2,n01,n03,n13,Ne.symm (show p0.at_≠p1.at_ from n01),Ne.symm (show p0.at_≠p3.at_ from n03),Ne.symm (show p1.at_≠p3.at_ from n13)]
 rw[l2] at T2 P2;obtain⟨T3,P3,A3⟩:=Aj (a:=p3.at_) hS A2 (by omega) (by simp);have l3:atL [p0,p1,p2,p3] p3.at_=[p3]:=by simp[atL,e2,n01,n03,n13,Ne.symm (show p0.at_≠p1.at_ from n01),Ne.symm (show p0.at_≠p3.at_ from n03),Ne.symm (show p1.at_≠p3.at_ from n13)]
 rw[l3] at T3 P3;have hv:Bb ⟨bs,dr,tk,up,sm,[p0,p1,p2,p3]⟩ sets=Bc [p0,p1,p2,p3] sets (Bc [p0,p1,p2,p3] sets (Bc [p0,p1,p2,p3] sets ([⟨sm,sm⟩]) p0.at_) p1.at_) p3.at_:=by simp[Bb,B5,B2,e2,n01,n03,n13,Ne.symm (show p0.at_≠p1.at_ from n01),Ne.symm (show p0.at_≠p3.at_ from n03),Ne.symm (show p1.at_≠p3.at_ from n13)]
 rw[hv];generalize ho1:Bc [p0,p1,p2,p3] sets ([⟨sm,sm⟩]) p0.at_=o1 at *;generalize ht1:togL [p0,p2] (nth sets p0.at_.toNat)=t1 at *;generalize ho2:Bc [p0,p1,p2,p3] sets (o1) p1.at_=o2 at *;generalize ht2:togL [p1] (nth sets p1.at_.toNat)=t2 at *;generalize ho3:Bc [p0,p1,p2,p3] sets (o2) p3.at_=o3 at *;generalize ht3:togL [p3] (nth sets p3.at_.toNat)=t3 at *;have hF:=Bn o3 (by have:=A3.2;omega);have hL:=By o3 (by have:=A3.2;omega);clear hS hv ho1 ht1 l1 ho2 ht2 l2 ho3 ht3 l3;refine A9 Ba ?_;unfold A6;(with_reducible repeat' (first|(simp(disch:=omega)only[push_cast,↓zz,seval])|refine And.intro ?_ ?_|(first|refine Ab ?_ ?_|refine Aa ?_ ?_)<;>intro hc<;>(try simp only[push_cast] at hc)|omega|intro _));refine A8 6 ?_;(with_reducible repeat' (first|(simp(disch:=omega)only[push_cast,↓zz,seval,xx,List.mem_cons,List.not_mem_nil,or_false,false_or,not_or,not_false_eq_true,true_or,or_true,Cb,setM,e2,n01,n03,n13])|refine And.intro ?_ ?_|(first|refine Ab ?_ ?_|refine Aa ?_ ?_)<;>intro hc<;>(try simp only[push_cast] at hc)|refine Al ?_|refine B8 [1,5] ?_|omega|intro _));refine Bm 6 (fun env=>[A5 1 (env 6)]) [(1,Ak sets),(6,.map 0 1),(10,Ag [⟨sm,sm⟩]),(53,.lst 1 [.int .i64 p0.at_,.int .i64 p1.at_,.int .i64 p3.at_]),(54,.int .i64 3),(55,.int .i64 0)] [⟨0,1,true,[.int .i64 p0.at_,Bf [p0,p2],.int .i64 p1.at_,Bf [p1],.int .i64 p3.at_,Bf [p3]]⟩] ?_ ?_
 · (with_reducible repeat' (first|(simp(disch:=omega)only[push_cast,↓zz,seval,e2,n01,n03,n13])|refine And.intro ?_ ?_|(first|refine Ab ?_ ?_|refine Aa ?_ ?_)<;>intro hc<;>(try simp only[push_cast] at hc)|omega|intro _))
   all_goals (simp only[Ca,e2,n01,n03,n13];done)
 (with_reducible repeat' (first|(simp(disch:=omega)only[push_cast,↓zz,seval,Cb,B9,hg,e2,n01,n03,n13])|refine And.intro ?_ ?_|(first|refine Ab ?_ ?_|refine Aa ?_ ?_)<;>intro hc<;>(try simp only[push_cast] at hc)|refine Al ?_|refine eQ T1 ?_|refine eQ P1 ?_|refine eK T1 ?_|refine eK P1 ?_|refine eQ T2 ?_|refine eQ P2 ?_|refine eK T2 ?_|refine eK P2 ?_|refine eQ T3 ?_|refine eQ P3 ?_|refine eK T3 ?_|refine eK P3 ?_|refine eK hF ?_|refine eK hL ?_|omega|intro _))
 all_goals ((try simp only[*,decide_true,decide_false,Bool.true_and,Bool.false_and]);(repeat' (first|(simp(disch:=omega)only[push_cast,↓zz,seval,Bq])|omega|(with_reducible refine And.intro ?_ ?_))))
theorem zac (bs dr tk up sm:Int) (p0 p1 p2 p3:Part) (sets:List (List Span)) (hs:B3 sm=true) (hS:Cm [p0,p1,p2,p3] sets) (e2:p2.at_=p1.at_) (e3:p3.at_=p0.at_) (n01:¬p0.at_=p1.at_) :
   PC Tryz.prog 196 [Bo ⟨bs,dr,tk,up,sm,[p0,p1,p2,p3]⟩,Ak sets] (.tup [Ag (Bb ⟨bs,dr,tk,up,sm,[p0,p1,p2,p3]⟩ sets),.bool (B9 (Bb ⟨bs,dr,tk,up,sm,[p0,p1,p2,p3]⟩ sets))]):=by
 have hg:=Ad sets;have b0:=Ai (hS.parts p0 (by simp));have b1:=Ai (hS.parts p1 (by simp));have b2:=Ai (hS.parts p2 (by simp));have b3:=Ai (hS.parts p3 (by simp));have A0:=Ct hs;obtain⟨T1,P1,A1⟩:=Aj (a:=p0.at_) hS A0 (by omega) (by simp);have l1:atL [p0,p1,p2,p3] p0.at_=[p0,p3]:=by simp[atL,e2,e3,n01,Ne.symm (show p0.at_≠p1.at_ from n01)]
 rw[l1] at T1 P1;obtain⟨T2,P2,A2⟩:=Aj (a:=p1.at_) hS A1 (by omega) (by simp);have l2:atL [p0,p1,p2,p3] p1.at_=[p1,p2]:=by simp[atL,e2,e3,n01,Ne.symm (show p0.at_≠p1.at_ from n01)]
 rw[l2] at T2 P2;have hv:Bb ⟨bs,dr,tk,up,sm,[p0,p1,p2,p3]⟩ sets=Bc [p0,p1,p2,p3] sets (Bc [p0,p1,p2,p3] sets ([⟨sm,sm⟩]) p0.at_) p1.at_:=by simp[Bb,B5,B2,e2,e3,n01,Ne.symm (show p0.at_≠p1.at_ from n01)]
 rw[hv];generalize ho1:Bc [p0,p1,p2,p3] sets ([⟨sm,sm⟩]) p0.at_=o1 at *;generalize ht1:togL [p0,p3] (nth sets p0.at_.toNat)=t1 at *;generalize ho2:Bc [p0,p1,p2,p3] sets (o1) p1.at_=o2 at *;generalize ht2:togL [p1,p2] (nth sets p1.at_.toNat)=t2 at *;have hF:=Bn o2 (by have:=A2.2;omega);have hL:=By o2 (by have:=A2.2;omega);clear hS hv ho1 ht1 l1 ho2 ht2 l2;refine A9 Ba ?_;unfold A6;(with_reducible repeat' (first|(simp(disch:=omega)only[push_cast,↓zz,seval])|refine And.intro ?_ ?_|(first|refine Ab ?_ ?_|refine Aa ?_ ?_)<;>intro hc<;>(try simp only[push_cast] at hc)|omega|intro _));refine A8 6 ?_;(with_reducible repeat' (first|(simp(disch:=omega)only[push_cast,↓zz,seval,xx,List.mem_cons,List.not_mem_nil,or_false,false_or,not_or,not_false_eq_true,true_or,or_true,Cb,setM,e2,e3,n01])|refine And.intro ?_ ?_|(first|refine Ab ?_ ?_|refine Aa ?_ ?_)<;>intro hc<;>(try simp only[push_cast] at hc)|refine Al ?_|refine B8 [1,5,8] ?_|omega|intro _));refine Bm 6 (fun env=>[A5 1 (env 6)]) [(1,Ak sets),(6,.map 0 1),(10,Ag [⟨sm,sm⟩]),(53,.lst 1 [.int .i64 p0.at_,.int .i64 p1.at_]),(54,.int .i64 2),(55,.int .i64 0)] [⟨0,1,true,[.int .i64 p0.at_,Bf [p0,p3],.int .i64 p1.at_,Bf [p1,p2]]⟩] ?_ ?_
 · (with_reducible repeat' (first|(simp(disch:=omega)only[push_cast,↓zz,seval,e2,e3,n01])|refine And.intro ?_ ?_|(first|refine Ab ?_ ?_|refine Aa ?_ ?_)<;>intro hc<;>(try simp only[push_cast] at hc)|omega|intro _))
   all_goals (simp only[Ca,e2,e3,n01];done)
 (with_reducible repeat' (first|(simp(disch:=omega)only[push_cast,↓zz,seval,Cb,B9,hg,e2,e3,n01])|refine And.intro ?_ ?_|(first|refine Ab ?_ ?_|refine Aa ?_ ?_)<;>intro hc<;>(try simp only[push_cast] at hc)|refine Al ?_|refine eQ T1 ?_|refine eQ P1 ?_|refine eK T1 ?_|refine eK P1 ?_|refine eQ T2 ?_|refine eQ P2 ?_|refine eK T2 ?_|refine eK P2 ?_|refine eK hF ?_|refine eK hL ?_|omega|intro _))
 all_goals ((try simp only[*,decide_true,decide_false,Bool.true_and,Bool.false_and]);(repeat' (first|(simp(disch:=omega)only[push_cast,↓zz,seval,Bq])|omega|(with_reducible refine And.intro ?_ ?_))))
theorem zad (bs dr tk up sm:Int) (p0 p1 p2 p3:Part) (sets:List (List Span)) (hs:B3 sm=true) (hS:Cm [p0,p1,p2,p3] sets) (e2:p2.at_=p1.at_) (e3:p3.at_=p1.at_) (n01:¬p0.at_=p1.at_) :
   PC Tryz.prog 196 [Bo ⟨bs,dr,tk,up,sm,[p0,p1,p2,p3]⟩,Ak sets] (.tup [Ag (Bb ⟨bs,dr,tk,up,sm,[p0,p1,p2,p3]⟩ sets),.bool (B9 (Bb ⟨bs,dr,tk,up,sm,[p0,p1,p2,p3]⟩ sets))]):=by
 have hg:=Ad sets;have b0:=Ai (hS.parts p0 (by simp));have b1:=Ai (hS.parts p1 (by simp));have b2:=Ai (hS.parts p2 (by simp));have b3:=Ai (hS.parts p3 (by simp));have A0:=Ct hs;obtain⟨T1,P1,A1⟩:=Aj (a:=p0.at_) hS A0 (by omega) (by simp);have l1:atL [p0,p1,p2,p3] p0.at_=[p0]:=by simp[atL,e2,e3,n01,Ne.symm (show p0.at_≠p1.at_ from n01)]
 rw[l1] at T1 P1;obtain⟨T2,P2,A2⟩:=Aj (a:=p1.at_) hS A1 (by omega) (by simp);have l2:atL [p0,p1,p2,p3] p1.at_=[p1,p2,p3]:=by simp[atL,e2,e3,n01,Ne.symm (show p0.at_≠p1.at_ from n01)]
 rw[l2] at T2 P2;have hv:Bb ⟨bs,dr,tk,up,sm,[p0,p1,p2,p3]⟩ sets=Bc [p0,p1,p2,p3] sets (Bc [p0,p1,p2,p3] sets ([⟨sm,sm⟩]) p0.at_) p1.at_:=by simp[Bb,B5,B2,e2,e3,n01,Ne.symm (show p0.at_≠p1.at_ from n01)]
 rw[hv];generalize ho1:Bc [p0,p1,p2,p3] sets ([⟨sm,sm⟩]) p0.at_=o1 at *;generalize ht1:togL [p0] (nth sets p0.at_.toNat)=t1 at *;generalize ho2:Bc [p0,p1,p2,p3] sets (o1) p1.at_=o2 at *;generalize ht2:togL [p1,p2,p3] (nth sets p1.at_.toNat)=t2 at *;have hF:=Bn o2 (by have:=A2.2;omega);have hL:=By o2 (by have:=A2.2;omega);clear hS hv ho1 ht1 l1 ho2 ht2 l2;refine A9 Ba ?_;unfold A6;(with_reducible repeat' (first|(simp(disch:=omega)only[push_cast,↓zz,seval])|refine And.intro ?_ ?_|(first|refine Ab ?_ ?_|refine Aa ?_ ?_)<;>intro hc<;>(try simp only[push_cast] at hc)|omega|intro _));refine A8 6 ?_;(with_reducible repeat' (first|(simp(disch:=omega)only[push_cast,↓zz,seval,xx,List.mem_cons,List.not_mem_nil,or_false,false_or,not_or,not_false_eq_true,true_or,or_true,Cb,setM,e2,e3,n01])|refine And.intro ?_ ?_|(first|refine Ab ?_ ?_|refine Aa ?_ ?_)<;>intro hc<;>(try simp only[push_cast] at hc)|refine Al ?_|refine B8 [1,8] ?_|omega|intro _));refine Bm 6 (fun env=>[A5 1 (env 6)]) [(1,Ak sets),(6,.map 0 1),(10,Ag [⟨sm,sm⟩]),(53,.lst 1 [.int .i64 p0.at_,.int .i64 p1.at_]),(54,.int .i64 2),(55,.int .i64 0)] [⟨0,1,true,[.int .i64 p0.at_,Bf [p0],.int .i64 p1.at_,Bf [p1,p2,p3]]⟩] ?_ ?_
 · (with_reducible repeat' (first|(simp(disch:=omega)only[push_cast,↓zz,seval,e2,e3,n01])|refine And.intro ?_ ?_|(first|refine Ab ?_ ?_|refine Aa ?_ ?_)<;>intro hc<;>(try simp only[push_cast] at hc)|omega|intro _))
   all_goals (simp only[Ca,e2,e3,n01];done)
 (with_reducible repeat' (first|(simp(disch:=omega)only[push_cast,↓zz,seval,Cb,B9,hg,e2,e3,n01])|refine And.intro ?_ ?_|(first|refine Ab ?_ ?_|refine Aa ?_ ?_)<;>intro hc<;>(try simp only[push_cast] at hc)|refine Al ?_|refine eQ T1 ?_|refine eQ P1 ?_|refine eK T1 ?_|refine eK P1 ?_|refine eQ T2 ?_|refine eQ P2 ?_|refine eK T2 ?_|refine eK P2 ?_|refine eK hF ?_|refine eK hL ?_|omega|intro _))
 all_goals ((try simp only[*,decide_true,decide_false,Bool.true_and,Bool.false_and]);(repeat' (first|(simp(disch:=omega)only[push_cast,↓zz,seval,Bq])|omega|(with_reducible refine And.intro ?_ ?_))))
theorem z3j (bs dr tk up sm:Int) (p0 p1 p2 p3:Part) (sets:List (List Span)) (hs:B3 sm=true) (hS:Cm [p0,p1,p2,p3] sets) (e2:p2.at_=p1.at_) (n01:¬p0.at_=p1.at_) (n03:¬p0.at_=p3.at_) (n13:¬p1.at_=p3.at_) :
   PC Tryz.prog 196 [Bo ⟨bs,dr,tk,up,sm,[p0,p1,p2,p3]⟩,Ak sets] (.tup [Ag (Bb ⟨bs,dr,tk,up,sm,[p0,p1,p2,p3]⟩ sets),.bool (B9 (Bb ⟨bs,dr,tk,up,sm,[p0,p1,p2,p3]⟩ sets))]):=by
 have hg:=Ad sets;have b0:=Ai (hS.parts p0 (by simp));have b1:=Ai (hS.parts p1 (by simp));have b2:=Ai (hS.parts p2 (by simp));have b3:=Ai (hS.parts p3 (by simp));have A0:=Ct hs;obtain⟨T1,P1,A1⟩:=Aj (a:=p0.at_) hS A0 (by omega) (by simp);have l1:atL [p0,p1,p2,p3] p0.at_=[p0]:=by simp[atL,e2,n01,n03,n13,Ne.symm (show p0.at_≠p1.at_ from n01),Ne.symm (show p0.at_≠p3.at_ from n03),Ne.symm (show p1.at_≠p3.at_ from n13)]
 rw[l1] at T1 P1;obtain⟨T2,P2,A2⟩:=Aj (a:=p1.at_) hS A1 (by omega) (by simp);have l2:atL [p0,p1,p2,p3] p1.at_=[p1,p2]:=by simp[atL,e2,n01,n03,n13,Ne.symm (show p0.at_≠p1.at_ from n01),Ne.symm (show p0.at_≠p3.at_ from n03),Ne.symm (show p1.at_≠p3.at_ from n13)]
 rw[l2] at T2 P2;obtain⟨T3,P3,A3⟩:=Aj (a:=p3.at_) hS A2 (by omega) (by simp);have l3:atL [p0,p1,p2,p3] p3.at_=[p3]:=by simp[atL,e2,n01,n03,n13,Ne.symm (show p0.at_≠p1.at_ from n01),Ne.symm (show p0.at_≠p3.at_ from n03),Ne.symm (show p1.at_≠p3.at_ from n13)]
 rw[l3] at T3 P3;have hv:Bb ⟨bs,dr,tk,up,sm,[p0,p1,p2,p3]⟩ sets=Bc [p0,p1,p2,p3] sets (Bc [p0,p1,p2,p3] sets (Bc [p0,p1,p2,p3] sets ([⟨sm,sm⟩]) p0.at_) p1.at_) p3.at_:=by simp[Bb,B5,B2,e2,n01,n03,n13,Ne.symm (show p0.at_≠p1.at_ from n01),Ne.symm (show p0.at_≠p3.at_ from n03),Ne.symm (show p1.at_≠p3.at_ from n13)]
 rw[hv];generalize ho1:Bc [p0,p1,p2,p3] sets ([⟨sm,sm⟩]) p0.at_=o1 at *;generalize ht1:togL [p0] (nth sets p0.at_.toNat)=t1 at *;generalize ho2:Bc [p0,p1,p2,p3] sets (o1) p1.at_=o2 at *;generalize ht2:togL [p1,p2] (nth sets p1.at_.toNat)=t2 at *;generalize ho3:Bc [p0,p1,p2,p3] sets (o2) p3.at_=o3 at *;generalize ht3:togL [p3] (nth sets p3.at_.toNat)=t3 at *;have hF:=Bn o3 (by have:=A3.2;omega);have hL:=By o3 (by have:=A3.2;omega);clear hS hv ho1 ht1 l1 ho2 ht2 l2 ho3 ht3 l3;refine A9 Ba ?_;unfold A6;(with_reducible repeat' (first|(simp(disch:=omega)only[push_cast,↓zz,seval])|refine And.intro ?_ ?_|(first|refine Ab ?_ ?_|refine Aa ?_ ?_)<;>intro hc<;>(try simp only[push_cast] at hc)|omega|intro _));refine A8 6 ?_;(with_reducible repeat' (first|(simp(disch:=omega)only[push_cast,↓zz,seval,xx,List.mem_cons,List.not_mem_nil,or_false,false_or,not_or,not_false_eq_true,true_or,or_true,Cb,setM,e2,n01,n03,n13])|refine And.intro ?_ ?_|(first|refine Ab ?_ ?_|refine Aa ?_ ?_)<;>intro hc<;>(try simp only[push_cast] at hc)|refine Al ?_|refine B8 [1,8] ?_|omega|intro _));refine Bm 6 (fun env=>[A5 1 (env 6)]) [(1,Ak sets),(6,.map 0 1),(10,Ag [⟨sm,sm⟩]),(53,.lst 1 [.int .i64 p0.at_,.int .i64 p1.at_,.int .i64 p3.at_]),(54,.int .i64 3),(55,.int .i64 0)] [⟨0,1,true,[.int .i64 p0.at_,Bf [p0],.int .i64 p1.at_,Bf [p1,p2],.int .i64 p3.at_,Bf [p3]]⟩] ?_ ?_
 · (with_reducible repeat' (first|(simp(disch:=omega)only[push_cast,↓zz,seval,e2,n01,n03,n13])|refine And.intro ?_ ?_|(first|refine Ab ?_ ?_|refine Aa ?_ ?_)<;>intro hc<;>(try simp only[push_cast] at hc)|omega|intro _))
   all_goals (simp only[Ca,e2,n01,n03,n13];done)
 (with_reducible repeat' (first|(simp(disch:=omega)only[push_cast,↓zz,seval,Cb,B9,hg,e2,n01,n03,n13])|refine And.intro ?_ ?_|(first|refine Ab ?_ ?_|refine Aa ?_ ?_)<;>intro hc<;>(try simp only[push_cast] at hc)|refine Al ?_|refine eQ T1 ?_|refine eQ P1 ?_|refine eK T1 ?_|refine eK P1 ?_|refine eQ T2 ?_|refine eQ P2 ?_|refine eK T2 ?_|refine eK P2 ?_|refine eQ T3 ?_|refine eQ P3 ?_|refine eK T3 ?_|refine eK P3 ?_|refine eK hF ?_|refine eK hL ?_|omega|intro _))
 all_goals ((try simp only[*,decide_true,decide_false,Bool.true_and,Bool.false_and]);(repeat' (first|(simp(disch:=omega)only[push_cast,↓zz,seval,Bq])|omega|(with_reducible refine And.intro ?_ ?_))))
theorem z3k (bs dr tk up sm:Int) (p0 p1 p2 p3:Part) (sets:List (List Span)) (hs:B3 sm=true) (hS:Cm [p0,p1,p2,p3] sets) (e3:p3.at_=p0.at_) (n01:¬p0.at_=p1.at_) (n02:¬p0.at_=p2.at_) (n12:¬p1.at_=p2.at_) :
   PC Tryz.prog 196 [Bo ⟨bs,dr,tk,up,sm,[p0,p1,p2,p3]⟩,Ak sets] (.tup [Ag (Bb ⟨bs,dr,tk,up,sm,[p0,p1,p2,p3]⟩ sets),.bool (B9 (Bb ⟨bs,dr,tk,up,sm,[p0,p1,p2,p3]⟩ sets))]):=by
 have hg:=Ad sets;have b0:=Ai (hS.parts p0 (by simp));have b1:=Ai (hS.parts p1 (by simp));have b2:=Ai (hS.parts p2 (by simp));have b3:=Ai (hS.parts p3 (by simp));have A0:=Ct hs;obtain⟨T1,P1,A1⟩:=Aj (a:=p0.at_) hS A0 (by omega) (by simp);have l1:atL [p0,p1,p2,p3] p0.at_=[p0,p3]:=by simp[atL,e3,n01,n02,n12,Ne.symm (show p0.at_≠p1.at_ from n01),Ne.symm (show p0.at_≠p2.at_ from n02),Ne.symm (show p1.at_≠p2.at_ from n12)]
 rw[l1] at T1 P1;obtain⟨T2,P2,A2⟩:=Aj (a:=p1.at_) hS A1 (by omega) (by simp);have l2:atL [p0,p1,p2,p3] p1.at_=[p1]:=by simp[atL,e3,n01,n02,n12,Ne.symm (show p0.at_≠p1.at_ from n01),Ne.symm (show p0.at_≠p2.at_ from n02),Ne.symm (show p1.at_≠p2.at_ from n12)]
 rw[l2] at T2 P2;obtain⟨T3,P3,A3⟩:=Aj (a:=p2.at_) hS A2 (by omega) (by simp);have l3:atL [p0,p1,p2,p3] p2.at_=[p2]:=by simp[atL,e3,n01,n02,n12,Ne.symm (show p0.at_≠p1.at_ from n01),Ne.symm (show p0.at_≠p2.at_ from n02),Ne.symm (show p1.at_≠p2.at_ from n12)]
 rw[l3] at T3 P3;have hv:Bb ⟨bs,dr,tk,up,sm,[p0,p1,p2,p3]⟩ sets=Bc [p0,p1,p2,p3] sets (Bc [p0,p1,p2,p3] sets (Bc [p0,p1,p2,p3] sets ([⟨sm,sm⟩]) p0.at_) p1.at_) p2.at_:=by simp[Bb,B5,B2,e3,n01,n02,n12,Ne.symm (show p0.at_≠p1.at_ from n01),Ne.symm (show p0.at_≠p2.at_ from n02),Ne.symm (show p1.at_≠p2.at_ from n12)]
 rw[hv];generalize ho1:Bc [p0,p1,p2,p3] sets ([⟨sm,sm⟩]) p0.at_=o1 at *;generalize ht1:togL [p0,p3] (nth sets p0.at_.toNat)=t1 at *;generalize ho2:Bc [p0,p1,p2,p3] sets (o1) p1.at_=o2 at *;generalize ht2:togL [p1] (nth sets p1.at_.toNat)=t2 at *;generalize ho3:Bc [p0,p1,p2,p3] sets (o2) p2.at_=o3 at *;generalize ht3:togL [p2] (nth sets p2.at_.toNat)=t3 at *;have hF:=Bn o3 (by have:=A3.2;omega);have hL:=By o3 (by have:=A3.2;omega);clear hS hv ho1 ht1 l1 ho2 ht2 l2 ho3 ht3 l3;refine A9 Ba ?_;unfold A6;(with_reducible repeat' (first|(simp(disch:=omega)only[push_cast,↓zz,seval])|refine And.intro ?_ ?_|(first|refine Ab ?_ ?_|refine Aa ?_ ?_)<;>intro hc<;>(try simp only[push_cast] at hc)|omega|intro _));refine A8 6 ?_;(with_reducible repeat' (first|(simp(disch:=omega)only[push_cast,↓zz,seval,xx,List.mem_cons,List.not_mem_nil,or_false,false_or,not_or,not_false_eq_true,true_or,or_true,Cb,setM,e3,n01,n02,n12])|refine And.intro ?_ ?_|(first|refine Ab ?_ ?_|refine Aa ?_ ?_)<;>intro hc<;>(try simp only[push_cast] at hc)|refine Al ?_|refine B8 [1,5] ?_|omega|intro _));refine Bm 6 (fun env=>[A5 1 (env 6)]) [(1,Ak sets),(6,.map 0 1),(10,Ag [⟨sm,sm⟩]),(53,.lst 1 [.int .i64 p0.at_,.int .i64 p1.at_,.int .i64 p2.at_]),(54,.int .i64 3),(55,.int .i64 0)] [⟨0,1,true,[.int .i64 p0.at_,Bf [p0,p3],.int .i64 p1.at_,Bf [p1],.int .i64 p2.at_,Bf [p2]]⟩] ?_ ?_
 · (with_reducible repeat' (first|(simp(disch:=omega)only[push_cast,↓zz,seval,e3,n01,n02,n12])|refine And.intro ?_ ?_|(first|refine Ab ?_ ?_|refine Aa ?_ ?_)<;>intro hc<;>(try simp only[push_cast] at hc)|omega|intro _))
   all_goals (simp only[Ca,e3,n01,n02,n12];done)
 (with_reducible repeat' (first|(simp(disch:=omega)only[push_cast,↓zz,seval,Cb,B9,hg,e3,n01,n02,n12])|refine And.intro ?_ ?_|(first|refine Ab ?_ ?_|refine Aa ?_ ?_)<;>intro hc<;>(try simp only[push_cast] at hc)|refine Al ?_|refine eQ T1 ?_|refine eQ P1 ?_|refine eK T1 ?_|refine eK P1 ?_|refine eQ T2 ?_|refine eQ P2 ?_|refine eK T2 ?_|refine eK P2 ?_|refine eQ T3 ?_|refine eQ P3 ?_|refine eK T3 ?_|refine eK P3 ?_|refine eK hF ?_|refine eK hL ?_|omega|intro _))
 all_goals ((try simp only[*,decide_true,decide_false,Bool.true_and,Bool.false_and]);(repeat' (first|(simp(disch:=omega)only[push_cast,↓zz,seval,Bq])|omega|(with_reducible refine And.intro ?_ ?_))))
theorem z3l (bs dr tk up sm:Int) (p0 p1 p2 p3:Part) (sets:List (List Span)) (hs:B3 sm=true) (hS:Cm [p0,p1,p2,p3] sets) (e3:p3.at_=p1.at_) (n01:¬p0.at_=p1.at_) (n02:¬p0.at_=p2.at_) (n12:¬p1.at_=p2.at_) :
   PC Tryz.prog 196 [Bo ⟨bs,dr,tk,up,sm,[p0,p1,p2,p3]⟩,Ak sets] (.tup [Ag (Bb ⟨bs,dr,tk,up,sm,[p0,p1,p2,p3]⟩ sets),.bool (B9 (Bb ⟨bs,dr,tk,up,sm,[p0,p1,p2,p3]⟩ sets))]):=by
 have hg:=Ad sets;have b0:=Ai (hS.parts p0 (by simp));have b1:=Ai (hS.parts p1 (by simp));have b2:=Ai (hS.parts p2 (by simp));have b3:=Ai (hS.parts p3 (by simp));have A0:=Ct hs;obtain⟨T1,P1,A1⟩:=Aj (a:=p0.at_) hS A0 (by omega) (by simp);have l1:atL [p0,p1,p2,p3] p0.at_=[p0]:=by simp[atL,e3,n01,n02,n12,Ne.symm (show p0.at_≠p1.at_ from n01),Ne.symm (show p0.at_≠p2.at_ from n02),Ne.symm (show p1.at_≠p2.at_ from n12)]
 rw[l1] at T1 P1;obtain⟨T2,P2,A2⟩:=Aj (a:=p1.at_) hS A1 (by omega) (by simp);have l2:atL [p0,p1,p2,p3] p1.at_=[p1,p3]:=by simp[atL,e3,n01,n02,n12,Ne.symm (show p0.at_≠p1.at_ from n01),Ne.symm (show p0.at_≠p2.at_ from n02),Ne.symm (show p1.at_≠p2.at_ from n12)]
 rw[l2] at T2 P2;obtain⟨T3,P3,A3⟩:=Aj (a:=p2.at_) hS A2 (by omega) (by simp);have l3:atL [p0,p1,p2,p3] p2.at_=[p2]:=by simp[atL,e3,n01,n02,n12,Ne.symm (show p0.at_≠p1.at_ from n01),Ne.symm (show p0.at_≠p2.at_ from n02),Ne.symm (show p1.at_≠p2.at_ from n12)]
 rw[l3] at T3 P3;have hv:Bb ⟨bs,dr,tk,up,sm,[p0,p1,p2,p3]⟩ sets=Bc [p0,p1,p2,p3] sets (Bc [p0,p1,p2,p3] sets (Bc [p0,p1,p2,p3] sets ([⟨sm,sm⟩]) p0.at_) p1.at_) p2.at_:=by simp[Bb,B5,B2,e3,n01,n02,n12,Ne.symm (show p0.at_≠p1.at_ from n01),Ne.symm (show p0.at_≠p2.at_ from n02),Ne.symm (show p1.at_≠p2.at_ from n12)]
 rw[hv];generalize ho1:Bc [p0,p1,p2,p3] sets ([⟨sm,sm⟩]) p0.at_=o1 at *;generalize ht1:togL [p0] (nth sets p0.at_.toNat)=t1 at *;generalize ho2:Bc [p0,p1,p2,p3] sets (o1) p1.at_=o2 at *;generalize ht2:togL [p1,p3] (nth sets p1.at_.toNat)=t2 at *;generalize ho3:Bc [p0,p1,p2,p3] sets (o2) p2.at_=o3 at *;generalize ht3:togL [p2] (nth sets p2.at_.toNat)=t3 at *;have hF:=Bn o3 (by have:=A3.2;omega);have hL:=By o3 (by have:=A3.2;omega);clear hS hv ho1 ht1 l1 ho2 ht2 l2 ho3 ht3 l3;refine A9 Ba ?_;unfold A6;(with_reducible repeat' (first|(simp(disch:=omega)only[push_cast,↓zz,seval])|refine And.intro ?_ ?_|(first|refine Ab ?_ ?_|refine Aa ?_ ?_)<;>intro hc<;>(try simp only[push_cast] at hc)|omega|intro _));refine A8 6 ?_;(with_reducible repeat' (first|(simp(disch:=omega)only[push_cast,↓zz,seval,xx,List.mem_cons,List.not_mem_nil,or_false,false_or,not_or,not_false_eq_true,true_or,or_true,Cb,setM,e3,n01,n02,n12])|refine And.intro ?_ ?_|(first|refine Ab ?_ ?_|refine Aa ?_ ?_)<;>intro hc<;>(try simp only[push_cast] at hc)|refine Al ?_|refine B8 [1,8] ?_|omega|intro _));refine Bm 6 (fun env=>[A5 1 (env 6)]) [(1,Ak sets),(6,.map 0 1),(10,Ag [⟨sm,sm⟩]),(53,.lst 1 [.int .i64 p0.at_,.int .i64 p1.at_,.int .i64 p2.at_]),(54,.int .i64 3),(55,.int .i64 0)] [⟨0,1,true,[.int .i64 p0.at_,Bf [p0],.int .i64 p1.at_,Bf [p1,p3],.int .i64 p2.at_,Bf [p2]]⟩] ?_ ?_
 · (with_reducible repeat' (first|(simp(disch:=omega)only[push_cast,↓zz,seval,e3,n01,n02,n12])|refine And.intro ?_ ?_|(first|refine Ab ?_ ?_|refine Aa ?_ ?_)<;>intro hc<;>(try simp only[push_cast] at hc)|omega|intro _))
   all_goals (simp only[Ca,e3,n01,n02,n12];done)
 (with_reducible repeat' (first|(simp(disch:=omega)only[push_cast,↓zz,seval,Cb,B9,hg,e3,n01,n02,n12])|refine And.intro ?_ ?_|(first|refine Ab ?_ ?_|refine Aa ?_ ?_)<;>intro hc<;>(try simp only[push_cast] at hc)|refine Al ?_|refine eQ T1 ?_|refine eQ P1 ?_|refine eK T1 ?_|refine eK P1 ?_|refine eQ T2 ?_|refine eQ P2 ?_|refine eK T2 ?_|refine eK P2 ?_|refine eQ T3 ?_|refine eQ P3 ?_|refine eK T3 ?_|refine eK P3 ?_|refine eK hF ?_|refine eK hL ?_|omega|intro _))
 all_goals ((try simp only[*,decide_true,decide_false,Bool.true_and,Bool.false_and]);(repeat' (first|(simp(disch:=omega)only[push_cast,↓zz,seval,Bq])|omega|(with_reducible refine And.intro ?_ ?_))))
theorem z3m (bs dr tk up sm:Int) (p0 p1 p2 p3:Part) (sets:List (List Span)) (hs:B3 sm=true) (hS:Cm [p0,p1,p2,p3] sets) (e3:p3.at_=p2.at_) (n01:¬p0.at_=p1.at_) (n02:¬p0.at_=p2.at_) (n12:¬p1.at_=p2.at_) :
   PC Tryz.prog 196 [Bo ⟨bs,dr,tk,up,sm,[p0,p1,p2,p3]⟩,Ak sets] (.tup [Ag (Bb ⟨bs,dr,tk,up,sm,[p0,p1,p2,p3]⟩ sets),.bool (B9 (Bb ⟨bs,dr,tk,up,sm,[p0,p1,p2,p3]⟩ sets))]):=by
 have hg:=Ad sets;have b0:=Ai (hS.parts p0 (by simp));have b1:=Ai (hS.parts p1 (by simp));have b2:=Ai (hS.parts p2 (by simp));have b3:=Ai (hS.parts p3 (by simp));have A0:=Ct hs;obtain⟨T1,P1,A1⟩:=Aj (a:=p0.at_) hS A0 (by omega) (by simp);have l1:atL [p0,p1,p2,p3] p0.at_=[p0]:=by simp[atL,e3,n01,n02,n12,Ne.symm (show p0.at_≠p1.at_ from n01),Ne.symm (show p0.at_≠p2.at_ from n02),Ne.symm (show p1.at_≠p2.at_ from n12)]
 rw[l1] at T1 P1;obtain⟨T2,P2,A2⟩:=Aj (a:=p1.at_) hS A1 (by omega) (by simp);have l2:atL [p0,p1,p2,p3] p1.at_=[p1]:=by simp[atL,e3,n01,n02,n12,Ne.symm (show p0.at_≠p1.at_ from n01),Ne.symm (show p0.at_≠p2.at_ from n02),Ne.symm (show p1.at_≠p2.at_ from n12)]
 rw[l2] at T2 P2;obtain⟨T3,P3,A3⟩:=Aj (a:=p2.at_) hS A2 (by omega) (by simp);have l3:atL [p0,p1,p2,p3] p2.at_=[p2,p3]:=by simp[atL,e3,n01,n02,n12,Ne.symm (show p0.at_≠p1.at_ from n01),Ne.symm (show p0.at_≠p2.at_ from n02),Ne.symm (show p1.at_≠p2.at_ from n12)]
 rw[l3] at T3 P3;have hv:Bb ⟨bs,dr,tk,up,sm,[p0,p1,p2,p3]⟩ sets=Bc [p0,p1,p2,p3] sets (Bc [p0,p1,p2,p3] sets (Bc [p0,p1,p2,p3] sets ([⟨sm,sm⟩]) p0.at_) p1.at_) p2.at_:=by simp[Bb,B5,B2,e3,n01,n02,n12,Ne.symm (show p0.at_≠p1.at_ from n01),Ne.symm (show p0.at_≠p2.at_ from n02),Ne.symm (show p1.at_≠p2.at_ from n12)]
 rw[hv];generalize ho1:Bc [p0,p1,p2,p3] sets ([⟨sm,sm⟩]) p0.at_=o1 at *;generalize ht1:togL [p0] (nth sets p0.at_.toNat)=t1 at *;generalize ho2:Bc [p0,p1,p2,p3] sets (o1) p1.at_=o2 at *;generalize ht2:togL [p1] (nth sets p1.at_.toNat)=t2 at *;generalize ho3:Bc [p0,p1,p2,p3] sets (o2) p2.at_=o3 at *;generalize ht3:togL [p2,p3] (nth sets p2.at_.toNat)=t3 at *;have hF:=Bn o3 (by have:=A3.2;omega);have hL:=By o3 (by have:=A3.2;omega);clear hS hv ho1 ht1 l1 ho2 ht2 l2 ho3 ht3 l3;refine A9 Ba ?_;unfold A6;(with_reducible repeat' (first|(simp(disch:=omega)only[push_cast,↓zz,seval])|refine And.intro ?_ ?_|(first|refine Ab ?_ ?_|refine Aa ?_ ?_)<;>intro hc<;>(try simp only[push_cast] at hc)|omega|intro _));refine A8 6 ?_;(with_reducible repeat' (first|(simp(disch:=omega)only[push_cast,↓zz,seval,xx,List.mem_cons,List.not_mem_nil,or_false,false_or,not_or,not_false_eq_true,true_or,or_true,Cb,setM,e3,n01,n02,n12])|refine And.intro ?_ ?_|(first|refine Ab ?_ ?_|refine Aa ?_ ?_)<;>intro hc<;>(try simp only[push_cast] at hc)|refine Al ?_|refine B8 [1,11] ?_|omega|intro _));refine Bm 6 (fun env=>[A5 1 (env 6)]) [(1,Ak sets),(6,.map 0 1),(10,Ag [⟨sm,sm⟩]),(53,.lst 1 [.int .i64 p0.at_,.int .i64 p1.at_,.int .i64 p2.at_]),(54,.int .i64 3),(55,.int .i64 0)] [⟨0,1,true,[.int .i64 p0.at_,Bf [p0],.int .i64 p1.at_,Bf [p1],.int .i64 p2.at_,Bf [p2,p3]]⟩] ?_ ?_
 · (with_reducible repeat' (first|(simp(disch:=omega)only[push_cast,↓zz,seval,e3,n01,n02,n12])|refine And.intro ?_ ?_|(first|refine Ab ?_ ?_|refine Aa ?_ ?_)<;>intro hc<;>(try simp only[push_cast] at hc)|omega|intro _))
   all_goals (simp only[Ca,e3,n01,n02,n12];done)
 (with_reducible repeat' (first|(simp(disch:=omega)only[push_cast,↓zz,seval,Cb,B9,hg,e3,n01,n02,n12])|refine And.intro ?_ ?_|(first|refine Ab ?_ ?_|refine Aa ?_ ?_)<;>intro hc<;>(try simp only[push_cast] at hc)|refine Al ?_|refine eQ T1 ?_|refine eQ P1 ?_|refine eK T1 ?_|refine eK P1 ?_|refine eQ T2 ?_|refine eQ P2 ?_|refine eK T2 ?_|refine eK P2 ?_|refine eQ T3 ?_|refine eQ P3 ?_|refine eK T3 ?_|refine eK P3 ?_|refine eK hF ?_|refine eK hL ?_|omega|intro _))
 all_goals ((try simp only[*,decide_true,decide_false,Bool.true_and,Bool.false_and]);(repeat' (first|(simp(disch:=omega)only[push_cast,↓zz,seval,Bq])|omega|(with_reducible refine And.intro ?_ ?_))))
theorem z3n (bs dr tk up sm:Int) (p0 p1 p2 p3:Part) (sets:List (List Span)) (hs:B3 sm=true) (hS:Cm [p0,p1,p2,p3] sets) (n01:¬p0.at_=p1.at_) (n02:¬p0.at_=p2.at_) (n03:¬p0.at_=p3.at_) (n12:¬p1.at_=p2.at_) (n13:¬p1.at_=p3.at_) (n23:¬p2.at_=p3.at_) :
   PC Tryz.prog 196 [Bo ⟨bs,dr,tk,up,sm,[p0,p1,p2,p3]⟩,Ak sets] (.tup [Ag (Bb ⟨bs,dr,tk,up,sm,[p0,p1,p2,p3]⟩ sets),.bool (B9 (Bb ⟨bs,dr,tk,up,sm,[p0,p1,p2,p3]⟩ sets))]):=by
 have hg:=Ad sets;have b0:=Ai (hS.parts p0 (by simp));have b1:=Ai (hS.parts p1 (by simp));have b2:=Ai (hS.parts p2 (by simp));have b3:=Ai (hS.parts p3 (by simp));have A0:=Ct hs;obtain⟨T1,P1,A1⟩:=Aj (a:=p0.at_) hS A0 (by omega) (by simp);have l1:atL [p0,p1,p2,p3] p0.at_=[p0]:=by simp[atL,n01,n02,n03,n12,n13,n23,Ne.symm (show p0.at_≠p1.at_ from n01),Ne.symm (show p0.at_≠p2.at_ from n02),Ne.symm (show p0.at_≠p3.at_ from n03),Ne.symm (show p1.at_≠p2.at_ from n12),Ne.symm (show p1.at_≠p3.at_ from n13),Ne.symm (show p2.at_≠p3.at_ from n23)]
 rw[l1] at T1 P1;obtain⟨T2,P2,A2⟩:=Aj (a:=p1.at_) hS A1 (by omega) (by simp);have l2:atL [p0,p1,p2,p3] p1.at_=[p1]:=by simp[atL,n01,n02,n03,n12,n13,n23,Ne.symm (show p0.at_≠p1.at_ from n01),Ne.symm (show p0.at_≠p2.at_ from n02),Ne.symm (show p0.at_≠p3.at_ from n03),Ne.symm (show p1.at_≠p2.at_ from n12),Ne.symm (show p1.at_≠p3.at_ from n13),Ne.symm (show p2.at_≠p3.at_ from n23)]
 rw[l2] at T2 P2;obtain⟨T3,P3,A3⟩:=Aj (a:=p2.at_) hS A2 (by omega) (by simp);have l3:atL [p0,p1,p2,p3] p2.at_=[p2]:=by simp[atL,n01,n02,n03,n12,n13,n23,Ne.symm (show p0.at_≠p1.at_ from n01),Ne.symm (show p0.at_≠p2.at_ from n02),Ne.symm (show p0.at_≠p3.at_ from n03),Ne.symm (show p1.at_≠p2.at_ from n12),Ne.symm (show p1.at_≠p3.at_ from n13),Ne.symm (show p2.at_≠p3.at_ from n23)]
 rw[l3] at T3 P3;obtain⟨T4,P4,A4⟩:=Aj (a:=p3.at_) hS A3 (by omega) (by simp);have l4:atL [p0,p1,p2,p3] p3.at_=[p3]:=by simp[atL,n01,n02,n03,n12,n13,n23,Ne.symm (show p0.at_≠p1.at_ from n01),Ne.symm (show p0.at_≠p2.at_ from n02),Ne.symm (show p0.at_≠p3.at_ from n03),Ne.symm (show p1.at_≠p2.at_ from n12),Ne.symm (show p1.at_≠p3.at_ from n13),Ne.symm (show p2.at_≠p3.at_ from n23)]
 rw[l4] at T4 P4;have hv:Bb ⟨bs,dr,tk,up,sm,[p0,p1,p2,p3]⟩ sets=Bc [p0,p1,p2,p3] sets (Bc [p0,p1,p2,p3] sets (Bc [p0,p1,p2,p3] sets (Bc [p0,p1,p2,p3] sets ([⟨sm,sm⟩]) p0.at_) p1.at_) p2.at_) p3.at_:=by simp[Bb,B5,B2,n01,n02,n03,n12,n13,n23,Ne.symm (show p0.at_≠p1.at_ from n01),Ne.symm (show p0.at_≠p2.at_ from n02),Ne.symm (show p0.at_≠p3.at_ from n03),Ne.symm (show p1.at_≠p2.at_ from n12),Ne.symm (show p1.at_≠p3.at_ from n13),Ne.symm (show p2.at_≠p3.at_ from n23)]
 rw[hv];generalize ho1:Bc [p0,p1,p2,p3] sets ([⟨sm,sm⟩]) p0.at_=o1 at *;generalize ht1:togL [p0] (nth sets p0.at_.toNat)=t1 at *;generalize ho2:Bc [p0,p1,p2,p3] sets (o1) p1.at_=o2 at *;generalize ht2:togL [p1] (nth sets p1.at_.toNat)=t2 at *;generalize ho3:Bc [p0,p1,p2,p3] sets (o2) p2.at_=o3 at *;generalize ht3:togL [p2] (nth sets p2.at_.toNat)=t3 at *;generalize ho4:Bc [p0,p1,p2,p3] sets (o3) p3.at_=o4 at *;generalize ht4:togL [p3] (nth sets p3.at_.toNat)=t4 at *;have hF:=Bn o4 (by have:=A4.2;omega);have hL:=By o4 (by have:=A4.2;omega);clear hS hv ho1 ht1 l1 ho2 ht2 l2 ho3 ht3 l3 ho4 ht4 l4;refine A9 Ba ?_;unfold A6;(with_reducible repeat' (first|(simp(disch:=omega)only[push_cast,↓zz,seval])|refine And.intro ?_ ?_|(first|refine Ab ?_ ?_|refine Aa ?_ ?_)<;>intro hc<;>(try simp only[push_cast] at hc)|omega|intro _));refine A8 6 ?_;(with_reducible repeat' (first|(simp(disch:=omega)only[push_cast,↓zz,seval,xx,List.mem_cons,List.not_mem_nil,or_false,false_or,not_or,not_false_eq_true,true_or,or_true,Cb,setM,n01,n02,n03,n12,n13,n23])|refine And.intro ?_ ?_|(first|refine Ab ?_ ?_|refine Aa ?_ ?_)<;>intro hc<;>(try simp only[push_cast] at hc)|refine Al ?_|refine B8 [1] ?_|omega|intro _));refine Bm 6 (fun env=>[A5 1 (env 6)]) [(1,Ak sets),(6,.map 0 1),(10,Ag [⟨sm,sm⟩]),(53,.lst 1 [.int .i64 p0.at_,.int .i64 p1.at_,.int .i64 p2.at_,.int .i64 p3.at_]),(54,.int .i64 4),(55,.int .i64 0)] [⟨0,1,true,[.int .i64 p0.at_,Bf [p0],.int .i64 p1.at_,Bf [p1],.int .i64 p2.at_,Bf [p2],.int .i64 p3.at_,Bf [p3]]⟩] ?_ ?_
 · (with_reducible repeat' (first|(simp(disch:=omega)only[push_cast,↓zz,seval,n01,n02,n03,n12,n13,n23])|refine And.intro ?_ ?_|(first|refine Ab ?_ ?_|refine Aa ?_ ?_)<;>intro hc<;>(try simp only[push_cast] at hc)|omega|intro _))
   all_goals (simp only[Ca,n01,n02,n03,n12,n13,n23];done)
 (with_reducible repeat' (first|(simp(disch:=omega)only[push_cast,↓zz,seval,Cb,B9,hg,n01,n02,n03,n12,n13,n23])|refine And.intro ?_ ?_|(first|refine Ab ?_ ?_|refine Aa ?_ ?_)<;>intro hc<;>(try simp only[push_cast] at hc)|refine Al ?_|refine eQ T1 ?_|refine eQ P1 ?_|refine eK T1 ?_|refine eK P1 ?_|refine eQ T2 ?_|refine eQ P2 ?_|refine eK T2 ?_|refine eK P2 ?_|refine eQ T3 ?_|refine eQ P3 ?_|refine eK T3 ?_|refine eK P3 ?_|refine eQ T4 ?_|refine eQ P4 ?_|refine eK T4 ?_|refine eK P4 ?_|refine eK hF ?_|refine eK hL ?_|omega|intro _))
 all_goals ((try simp only[*,decide_true,decide_false,Bool.true_and,Bool.false_and]);(repeat' (first|(simp(disch:=omega)only[push_cast,↓zz,seval,Bq])|omega|(with_reducible refine And.intro ?_ ?_))))
theorem zjq (bs dr tk up sm:Int) (p0 p1 p2 p3:Part) (sets:List (List Span)) (hs:B3 sm=true) (hS:Cm [p0,p1,p2,p3] sets) :
   PC Tryz.prog 196 [Bo ⟨bs,dr,tk,up,sm,[p0,p1,p2,p3]⟩,Ak sets] (.tup [Ag (Bb ⟨bs,dr,tk,up,sm,[p0,p1,p2,p3]⟩ sets),.bool (B9 (Bb ⟨bs,dr,tk,up,sm,[p0,p1,p2,p3]⟩ sets))]):=by
 rcases Classical.em (p1.at_=p0.at_) with e1|x01
 · skip
   rcases Classical.em (p2.at_=p0.at_) with e2|x02
   · skip
     rcases Classical.em (p3.at_=p0.at_) with e3|x03
     · skip
       exact za4 bs dr tk up sm p0 p1 p2 p3 sets hs hS e1 e2 e3
     have n03:¬p0.at_=p3.at_:=fun h=>x03 h.symm;exact za5 bs dr tk up sm p0 p1 p2 p3 sets hs hS e1 e2 n03
   have n02:¬p0.at_=p2.at_:=fun h=>x02 h.symm;rcases Classical.em (p3.at_=p0.at_) with e3|x03
   · skip
     exact za6 bs dr tk up sm p0 p1 p2 p3 sets hs hS e1 e3 n02
   have n03:¬p0.at_=p3.at_:=fun h=>x03 h.symm;rcases Classical.em (p3.at_=p2.at_) with e3|x23
   · skip
     exact za7 bs dr tk up sm p0 p1 p2 p3 sets hs hS e1 e3 n02
   have n23:¬p2.at_=p3.at_:=fun h=>x23 h.symm;exact za8 bs dr tk up sm p0 p1 p2 p3 sets hs hS e1 n02 n03 n23
 have n01:¬p0.at_=p1.at_:=fun h=>x01 h.symm;rcases Classical.em (p2.at_=p0.at_) with e2|x02
 · skip
   rcases Classical.em (p3.at_=p0.at_) with e3|x03
   · skip
     exact za9 bs dr tk up sm p0 p1 p2 p3 sets hs hS e2 e3 n01
   have n03:¬p0.at_=p3.at_:=fun h=>x03 h.symm;rcases Classical.em (p3.at_=p1.at_) with e3|x13
   · skip
     exact zaa bs dr tk up sm p0 p1 p2 p3 sets hs hS e2 e3 n01
   have n13:¬p1.at_=p3.at_:=fun h=>x13 h.symm;exact zab bs dr tk up sm p0 p1 p2 p3 sets hs hS e2 n01 n03 n13
 have n02:¬p0.at_=p2.at_:=fun h=>x02 h.symm;rcases Classical.em (p2.at_=p1.at_) with e2|x12
 · skip
   rcases Classical.em (p3.at_=p0.at_) with e3|x03
   · skip
     exact zac bs dr tk up sm p0 p1 p2 p3 sets hs hS e2 e3 n01
   have n03:¬p0.at_=p3.at_:=fun h=>x03 h.symm;rcases Classical.em (p3.at_=p1.at_) with e3|x13
   · skip
     exact zad bs dr tk up sm p0 p1 p2 p3 sets hs hS e2 e3 n01
   have n13:¬p1.at_=p3.at_:=fun h=>x13 h.symm;exact z3j bs dr tk up sm p0 p1 p2 p3 sets hs hS e2 n01 n03 n13
 have n12:¬p1.at_=p2.at_:=fun h=>x12 h.symm;rcases Classical.em (p3.at_=p0.at_) with e3|x03
 · skip
   exact z3k bs dr tk up sm p0 p1 p2 p3 sets hs hS e3 n01 n02 n12
 have n03:¬p0.at_=p3.at_:=fun h=>x03 h.symm;rcases Classical.em (p3.at_=p1.at_) with e3|x13
 · skip
   exact z3l bs dr tk up sm p0 p1 p2 p3 sets hs hS e3 n01 n02 n12
 have n13:¬p1.at_=p3.at_:=fun h=>x13 h.symm;rcases Classical.em (p3.at_=p2.at_) with e3|x23
 · skip
   exact z3m bs dr tk up sm p0 p1 p2 p3 sets hs hS e3 n01 n02 n12
 have n23:¬p2.at_=p3.at_:=fun h=>x23 h.symm;exact z3n bs dr tk up sm p0 p1 p2 p3 sets hs hS n01 n02 n03 n12 n13 n23
theorem z3o (t:Term) (sets:List (List Span)) (hl:t.parts.length≤4) (hs:B3 t.sum=true) (hS:Cm t.parts sets) :
   PC Tryz.prog 196 [Bo t,Ak sets] (.tup [Ag (Bb t sets),.bool (B9 (Bb t sets))]):=by
 obtain⟨bs,dr,tk,up,sm,l⟩:=t
 match l,hl,hS with
 | [],_,hS=>exact zjm bs dr tk up sm sets hs hS
 | [p0],_,hS=>exact zjn bs dr tk up sm p0 sets hs hS
 | [p0,p1],_,hS=>exact zjo bs dr tk up sm p0 p1 sets hs hS
 | [p0,p1,p2],_,hS=>exact zjp bs dr tk up sm p0 p1 p2 sets hs hS
 | [p0,p1,p2,p3],_,hS=>exact zjq bs dr tk up sm p0 p1 p2 p3 sets hs hS
 | _::_::_::_::_::_,hl,_=>simp at hl
def midG (gs:List (List Span)) (k:Nat):List (List Span):=(gs.take k).map symI++List.replicate (gs.length-k) []
theorem z6x {gs:List (List Span)} {k:Nat} (h:k≤gs.length):(midG gs k).length=gs.length:=by simp[midG];omega
theorem zjr (gs:List (List Span)):midG gs gs.length=gs.map symI:=by simp[midG]
theorem zjs {gs:List (List Span)} {k:Nat} (h:k<gs.length):((midG gs k).map Ag).set k (Ag (symI (nth gs k)))=(midG gs (k+1)).map Ag:=by
 have e:gs.length-k=(gs.length-(k+1))+1:=by omega
 rw[midG,midG,take_at h,e,List.replicate_succ,List.map_append,List.set_append_right _ _ (by simp;omega)];simp[show min k gs.length=k by omega]
theorem zpv {gs:List (List Span)} {k:Nat} (h:k<gs.length):nth (midG gs (k+1)) k=symI (nth gs k):=by
 rw[midG,take_at h,nth,List.getD_eq_getElem?_getD,List.map_append,List.append_assoc,List.getElem?_append_right (by simp;omega)];simp[show min k gs.length=k by omega]
theorem zjt (n:Nat):Aw (List.replicate n AV.nilS)=true:=by
 induction n with
 | zero=>rfl
 | succ n ih=>simp[List.replicate_succ,Aw,AV.pure,ih]
theorem zju (l:List Grp) (gs:List (List Span)):leSL l (List.replicate gs.length .nilS) ((midG gs 0).map Ag):=by
 simp only[midG,List.take_zero,List.map_nil,List.nil_append,Nat.sub_zero,List.map_replicate];generalize gs.length=n
 induction n with
 | zero=>rfl
 | succ n ih=>exact⟨⟨by decide,rfl⟩,ih⟩
def Np (gs:List (List Span)) (k:Nat):Bool:=(gs.take k).all fun g=>decide (0<((symI g).length:Int))
theorem zjv {gs:List (List Span)} {k:Nat} (h:k<gs.length):Np gs (k+1)=(Np gs k&&decide (0<((symI (nth gs k)).length:Int))):=by
 rw[Np,take_at h,List.all_append];simp[Np]
def prtB (t:Term) (n:Int):Bool:=t.parts.all fun p=>Dk p n
def El (t:Term) (gs:List (List Span)):List Span × Bool :=
 if 4<gs.length∨B4 t=false then ([],false) else if prtB t gs.length=false then ([],false) else
   if Np gs gs.length=false then ([],true) else (Bb t (gs.map symI),B9 (Bb t (gs.map symI)))
theorem ztx {l:List Part} {n:Int} {k:Nat} (h:k<l.length):(l.drop k).all (fun p=>Dk p n)=(Dk (nth l k) n&&(l.drop (k+1)).all fun p=>Dk p n):=by rw[drop_at h,List.all_cons]
theorem J9 {t:Term} {gs:List (List Span)} (h:prtB t gs.length=true) (hg:gs.length≤4):Cm t.parts (gs.map symI) where
 parts p hp:=by
   rw[List.length_map];exact List.all_eq_true.1 h p hp
 syms s hs:=by
   obtain⟨g,_,rfl⟩:=List.mem_map.1 hs;exact z0a g
 many:=by simp;omega
theorem zae (t:Term) (gs:List (List Span)) (ht:t.parts.length<1000000000000) (hg:∀ g∈gs,g.length≤1000000) (hl:gs.length≤9223372036854775807) :
   PC Tryz.prog 185 [Bo t,Ak gs] (.tup [Ag (El t gs).1,.bool (El t gs).2]):=by
 have hP:=Ad gs;have hN:=I6 t ht;have hY:=z0b;refine A9 Zr ?_;unfold Oo;by_cases h1:4<gs.length∨B4 t=false
 · rw[El,if_pos h1]
   (with_reducible repeat' (first|(simp(disch:=omega)only[push_cast,↓zz,seval])|refine And.intro ?_ ?_|(first|refine Ab ?_ ?_|refine Aa ?_ ?_)<;>intro hc<;>(try simp only[push_cast] at hc)|refine eK hN ?_|refine eQ hN ?_|refine eG hN ?_|((first|refine cK hN ?_|refine cQ hN ?_|refine cG hN ?_);(simp(disch:=omega)only[push_cast,↓zz,seval]);(fail_if_success change False))|omega|intro _))
   all_goals first
     | ((repeat' (first|(simp(disch:=omega)only[push_cast,↓zz,seval,Bq])|omega|(with_reducible refine And.intro ?_ ?_)));done)
     | (exfalso;rcases h1 with h1|h1<;>first|omega|simp_all)
 have h4:gs.length≤4:=by omega
 have hn:B4 t=true:=by simpa using (not_or.1 h1).2
 (with_reducible repeat' (first|(simp(disch:=omega)only[push_cast,↓zz,seval,hn])|refine And.intro ?_ ?_|(first|refine Ab ?_ ?_|refine Aa ?_ ?_)<;>intro hc<;>(try simp only[push_cast] at hc)|refine eK hN ?_|refine eQ hN ?_|refine eG hN ?_|((first|refine cK hN ?_|refine cQ hN ?_|refine cG hN ?_);(simp(disch:=omega)only[push_cast,↓zz,seval,hn]);(fail_if_success change False))|omega|intro _))
 refine An (Ap (fun (k:Nat)=>k≤gs.length) (fun k=>gs.length-k)
   (fun k=>[(1,Ak gs),(2,.ptr 0 1 0 0),(6,.bool (Np gs k)),(7,.ref 1 1 0 gs.length),(23,Ak gs),(24,.int .i64 gs.length),(25,.int .i64 k)]) (fun k=>[⟨6,1,true,[Bo t]⟩,⟨1,1,true,(midG gs k).map Ag⟩]) (fun env _=>[A5 1 (env 2),A5 1 (env 7)]) 0 (by simp) ?_ ?_)
 · have e:=zju
   have hr:Aw (List.replicate gs.length AV.nilS)=true:=zjt gs.length;have hs0:Np gs 0=true:=rfl;(with_reducible repeat' (first|(simp(disch:=omega)only[push_cast,↓zz,seval,hs0,hP,hr])|refine And.intro ?_ ?_|(first|refine Ab ?_ ?_|refine Aa ?_ ?_)<;>intro hc<;>(try simp only[push_cast] at hc)|omega|intro _))
   all_goals exact e _ gs
 intro k hk;have hml:=z6x hk;have hpm:=Ad (midG gs k);rcases Nat.lt_or_ge k gs.length with hkl|hkl
 · have hM:=Rm (nth gs k) [⟨0,1114111⟩] (by have:=hg _ (Ao hkl);omega) (by simp)
   rw[zjk] at hM;have e1:=zjs hkl;have e2:=zpv hkl;have e3:=zjv hkl;have hpm2:=Ad (midG gs (k+1));have hml2:=z6x (gs:=gs) (k:=k+1) (by omega);refine W_T ?_;(with_reducible repeat' (first|(simp(disch:=omega)only[push_cast,↓zz,seval,hP,hpm,hpm2,hml,hml2,e1,e2])|refine And.intro ?_ ?_|(first|refine Ab ?_ ?_|refine Aa ?_ ?_)<;>intro hc<;>(try simp only[push_cast] at hc)|refine eK hY ?_|refine eQ hY ?_|refine eG hY ?_|refine eK hM ?_|refine eQ hM ?_|refine eG hM ?_|((first|refine cK hY ?_|refine cQ hY ?_|refine cG hY ?_|refine cK hM ?_|refine cQ hM ?_|refine cG hM ?_);(simp(disch:=omega)only[push_cast,↓zz,seval,hP,hpm,hpm2,hml,hml2,e1,e2]);(fail_if_success change False))|omega|intro _))
   all_goals
     refine⟨k+1,?_⟩;(with_reducible repeat' (first|(simp(disch:=omega)only[push_cast,↓zz,seval,e3])|refine And.intro ?_ ?_|(first|refine Ab ?_ ?_|refine Aa ?_ ?_)<;>intro hc<;>(try simp only[push_cast] at hc)|omega|intro _))
   all_goals (simp only[*,Bool.true_and,Bool.false_and])
 · obtain rfl:k=gs.length:=by omega
   rw[zjr] at *;refine W_T ?_;(with_reducible repeat' (first|(simp(disch:=omega)only[push_cast,↓zz,seval,hP,hpm])|refine And.intro ?_ ?_|(first|refine Ab ?_ ?_|refine Aa ?_ ?_)<;>intro hc<;>(try simp only[push_cast] at hc)|omega|intro _))
   refine An (Ap (fun (k:Nat)=>k≤t.parts.length∧prtB t gs.length=(t.parts.drop k).all fun p=>Dk p gs.length) (fun k=>t.parts.length-k)
     (fun k=>[(1,Ak gs),(2,.ptr 0 1 0 0),(6,.bool (Np gs gs.length)),(7,Ak (gs.map symI)),(47,Bf t.parts),(48,.int .i64 t.parts.length),(49,.int .i64 k)]) (fun k=>[⟨6,1,true,[Bo t]⟩]) (fun env _=>[A5 1 (env 2)]) 0 ⟨by simp,rfl⟩ ?_ ?_)
   · have et:List.take gs.length (gs.map symI)=gs.map symI:=List.take_of_length_le (by simp)
     (with_reducible repeat' (first|(simp(disch:=omega)only[push_cast,↓zz,seval,hP,hpm,et])|refine And.intro ?_ ?_|(first|refine Ab ?_ ?_|refine Aa ?_ ?_)<;>intro hc<;>(try simp only[push_cast] at hc)|omega|intro _))
   rintro k ⟨k1,k2⟩;rcases Nat.lt_or_ge k t.parts.length with hkp|hkp
   · have hR:=J3 (nth t.parts k) gs.length
     rw[ztx hkp] at k2;refine W_T ?_;(with_reducible repeat' (first|(simp(disch:=omega)only[push_cast,↓zz,seval,hP,hpm])|refine And.intro ?_ ?_|(first|refine Ab ?_ ?_|refine Aa ?_ ?_)<;>intro hc<;>(try simp only[push_cast] at hc)|refine eK hR ?_|refine eQ hR ?_|refine eG hR ?_|((first|refine cK hR ?_|refine cQ hR ?_|refine cG hR ?_);(simp(disch:=omega)only[push_cast,↓zz,seval,hP,hpm]);(fail_if_success change False))|omega|intro _))
     · have hp:prtB t gs.length=false:=by rw[k2];simp[*]
       rw[El,if_neg h1,if_pos hp];(repeat' (first|(simp(disch:=omega)only[push_cast,↓zz,seval,Bq])|omega|(with_reducible refine And.intro ?_ ?_)))
     · exact⟨k+1,by push_cast,⟨by omega,by rw[k2];simp[*]⟩,by omega⟩
   · rw[List.drop_of_length_le hkp] at k2
     have hp:prtB t gs.length=true:=k2;have hnum:=hn;simp only[B4,Bool.and_eq_true,decide_eq_true_eq] at hnum;have hV:=z3o t (gs.map symI) hnum.2.2 hnum.1.1.2 (J9 hp h4);have hI:El t gs=if Np gs gs.length=false then ([],true) else (Bb t (gs.map symI),B9 (Bb t (gs.map symI))):=by rw[El,if_neg h1,if_neg (by simp[hp])]
     refine W_T ?_;(with_reducible repeat' (first|(simp(disch:=omega)only[push_cast,↓zz,seval,hP,hpm])|refine And.intro ?_ ?_|(first|refine Ab ?_ ?_|refine Aa ?_ ?_)<;>intro hc<;>(try simp only[push_cast] at hc)|refine eK hV ?_|refine eQ hV ?_|refine eG hV ?_|((first|refine cK hV ?_|refine cQ hV ?_|refine cG hV ?_);(simp(disch:=omega)only[push_cast,↓zz,seval,hP,hpm]);(fail_if_success change False))|omega|intro _))
     all_goals
       rw[hI]
       first
         | rw[if_pos (by assumption)]
         | rw[if_neg (by simp[*])]
       (repeat' (first|(simp(disch:=omega)only[push_cast,↓zz,seval,Bq])|omega|(with_reducible refine And.intro ?_ ?_)))
     all_goals trace_state
def Em (t:Term) (gs:List (List Span)):List Span × Bool :=
 if (El t gs).2=false then ([],false) else if (El t gs).1.length=0 then ([],true) else (Dx (imgL t.outer (El t gs).1) t.base,true)
theorem zen (t:Term) (gs:List (List Span)) (h:B3 t.sum=true):(El t gs).1.length≤2147483649:=by
 unfold El
 repeat' split
 all_goals first|(simp;done)|skip
 unfold Bb
 have key:∀ (pl:List Int) (out:List Span),Acc out→Acc (pl.foldl (Bc t.parts (gs.map symI)) out):=fun pl=>by
   induction pl with
   | nil=>exact fun out h=>h
   | cons a pl ih=>exact fun out h=>ih _ (z6v _ _)
 exact (key _ _ (Ct h)).2
theorem zaf (t:Term) (gs:List (List Span)) (ht:t.parts.length<1000000000000) (hg:∀ g∈gs,g.length≤1000000) (hl:gs.length≤9223372036854775807) :
   PC Tryz.prog 167 [Bo t,Ak gs] (.tup [Ag (Em t gs).1,.bool (Em t gs).2]):=by
 have hP:=Ad gs;have hI:=zae t gs ht hg hl;have hO:=He t
 have hlen:(El t gs).2=true→(El t gs).1.length≤2147483649:=fun h=>by
   by_cases hs:B3 t.sum=true
   · exact zen t gs hs
   · have:B4 t=false:=by simp[B4,hs]
     rw[El,if_pos (.inr this)] at h;cases h
 refine A9 Zn ?_;unfold Oj;rcases Bool.eq_false_or_eq_true (El t gs).2 with h2|h2
 · have hl2:=hlen h2
   have hA:=Xe t.outer (El t gs).1;have hM:=Ur t.outer (El t gs).1 (by omega);have hV:=zeh (imgL t.outer (El t gs).1) t.base (by have:=hA.2;omega);(with_reducible repeat' (first|(simp(disch:=omega)only[push_cast,↓zz,seval,hP,h2])|refine And.intro ?_ ?_|(first|refine Ab ?_ ?_|refine Aa ?_ ?_)<;>intro hc<;>(try simp only[push_cast] at hc)|refine eK hI ?_|refine eQ hI ?_|refine eG hI ?_|refine eK hO ?_|refine eQ hO ?_|refine eG hO ?_|refine eK hM ?_|refine eQ hM ?_|refine eG hM ?_|refine eK hV ?_|refine eQ hV ?_|refine eG hV ?_|((first|refine cK hI ?_|refine cQ hI ?_|refine cG hI ?_|refine cK hO ?_|refine cQ hO ?_|refine cG hO ?_|refine cK hM ?_|refine cQ hM ?_|refine cG hM ?_|refine cK hV ?_|refine cQ hV ?_|refine cG hV ?_);(simp(disch:=omega)only[push_cast,↓zz,seval,hP,h2]);(fail_if_success change False))|omega|intro _))
   all_goals
     rw[Em,if_neg (by simp[h2])]
     first
       | rw[if_pos (by omega)]
       | rw[if_neg (by omega)]
     (repeat' (first|(simp(disch:=omega)only[push_cast,↓zz,seval,Bq])|omega|(with_reducible refine And.intro ?_ ?_)))
 · (with_reducible repeat' (first|(simp(disch:=omega)only[push_cast,↓zz,seval,hP,h2])|refine And.intro ?_ ?_|(first|refine Ab ?_ ?_|refine Aa ?_ ?_)<;>intro hc<;>(try simp only[push_cast] at hc)|refine eK hI ?_|refine eQ hI ?_|refine eG hI ?_|((first|refine cK hI ?_|refine cQ hI ?_|refine cG hI ?_);(simp(disch:=omega)only[push_cast,↓zz,seval,hP,h2]);(fail_if_success change False))|omega|intro _))
   all_goals
     rw[Em,if_pos h2];(repeat' (first|(simp(disch:=omega)only[push_cast,↓zz,seval,Bq])|omega|(with_reducible refine And.intro ?_ ?_)))
def O7 (t:Term) (i o:Int) (gs:List (List Span)):Bool:=Ep t i o gs.length&&((Em t gs).2&&decide (Eq (Em t gs).1 (domL o)=[]))
theorem zeo (t:Term) (gs:List (List Span)):(Em t gs).1.length≤2147483649:=by
 unfold Em
 repeat' split
 all_goals first|(simp;done)|skip
 have h1:=(Xe t.outer (El t gs).1).2;have h2:=zjl (imgL t.outer (El t gs).1) t.base;simp only;omega
theorem Xf (s:Int):(domL s).length≤2:=by unfold domL;split<;>(try split)<;>simp
theorem zep (t:Term) (i o:Int) (gs:List (List Span)) (ht:t.parts.length<1000000000000) (hg:∀ g∈gs,g.length≤1000000) (hl:gs.length≤9223372036854775807) :
   PC Tryz.prog 147 [Bo t,.int .i64 i,.int .i64 o,Ak gs] (.bool (O7 t i o gs)):=by
 have hP:=Ad gs;have hR:=z9j t i o gs.length ht;have hI:=zaf t gs ht hg hl;have hD:=D7 o;have hW:=Rn (Em t gs).1 (domL o) (by have:=zeo t gs;omega) (by have:=Xf o;omega);refine A9 z2g ?_;unfold Qo O7;(with_reducible repeat' (first|(simp(disch:=omega)only[push_cast,↓zz,seval,hP])|refine And.intro ?_ ?_|(first|refine Ab ?_ ?_|refine Aa ?_ ?_)<;>intro hc<;>(try simp only[push_cast] at hc)|refine eK hR ?_|refine eQ hR ?_|refine eG hR ?_|refine eK hI ?_|refine eQ hI ?_|refine eG hI ?_|refine eK hD ?_|refine eQ hD ?_|refine eG hD ?_|refine eK hW ?_|refine eQ hW ?_|refine eG hW ?_|((first|refine cK hR ?_|refine cQ hR ?_|refine cG hR ?_|refine cK hI ?_|refine cQ hI ?_|refine cG hI ?_|refine cK hD ?_|refine cQ hD ?_|refine cG hD ?_|refine cK hW ?_|refine cQ hW ?_|refine cG hW ?_);(simp(disch:=omega)only[push_cast,↓zz,seval,hP]);(fail_if_success change False))|omega|intro _))
 all_goals simp only[*,Bool.true_and,Bool.false_and]
def Ky:Int→List Span→Bool
 | _,[]=>true
 | last,s::l=>decide (s.lo≤s.hi∧-1073741824≤s.lo∧s.hi≤1073741824∧last+1<s.lo)&&Ky s.hi l
def Rw (g:List Span):Bool:=Ky (-1073741826) g
theorem zag (g:List Span) (hl:g.length≤9223372036854775807):PC Tryz.prog 145 [Ag g] (.bool (Rw g)):=by
 refine A9 Zj ?_;unfold Of;(with_reducible repeat' (first|(simp(disch:=omega)only[push_cast,↓zz,seval])|refine And.intro ?_ ?_|(first|refine Ab ?_ ?_|refine Aa ?_ ?_)<;>intro hc<;>(try simp only[push_cast] at hc)|omega|intro _))
 refine An (Ap (fun (s:Nat × Int)=>s.1≤g.length∧Rw g=Ky s.2 (g.drop s.1)∧-1073741826≤s.2∧s.2≤1073741824) (fun s=>g.length-s.1)
   (fun s=>[(3,.int .i64 s.2),(6,Ag g),(7,.int .i64 g.length),(8,.int .i64 s.1)]) (fun s=>[]) (fun _ _=>[]) (0,-1073741826) ⟨by simp,rfl,by simp,by simp⟩ ?_ ?_)
 · (with_reducible repeat' (first|(simp(disch:=omega)only[push_cast,↓zz,seval])|refine And.intro ?_ ?_|(first|refine Ab ?_ ?_|refine Aa ?_ ?_)<;>intro hc<;>(try simp only[push_cast] at hc)|omega|intro _))
 rintro⟨k,last⟩ ⟨h1,h2,h3,h4⟩;simp only at h1 h2 h3 h4;rcases Nat.lt_or_ge k g.length with hk|hk
 · rw[drop_at hk,Ky] at h2
   generalize hxe:nth g k=x at *;have hw:IntKind.i64.wrap (last+1)=last+1:=IntWalk.i64_in _ (by omega);refine W_T ?_;(with_reducible repeat' (first|(simp(disch:=omega)only[push_cast,↓zz,seval,hw,hxe])|refine And.intro ?_ ?_|(first|refine Ab ?_ ?_|refine Aa ?_ ?_)<;>intro hc<;>(try simp only[push_cast] at hc)|omega|intro _))
   all_goals first
     | (rw[h2,decide_eq_false (by omega),Bool.false_and];done)
     | exact⟨(k+1,x.hi),⟨rfl,by push_cast⟩,⟨by simp only;omega,by rw[h2,decide_eq_true (by omega),Bool.true_and],by simp only;omega,by simp only;omega⟩,by simp only;omega⟩
 · rw[List.drop_of_length_le hk,Ky] at h2
   refine W_T ?_;(with_reducible repeat' (first|(simp(disch:=omega)only[push_cast,↓zz,seval,h2])|refine And.intro ?_ ?_|(first|refine Ab ?_ ?_|refine Aa ?_ ?_)<;>intro hc<;>(try simp only[push_cast] at hc)|omega|intro _))
   all_goals trace_state
def Jd (i:Int) (g:List Span):Bool:=!decide ((g.length:Int)=0)&&(decide ((g.length:Int)≤64)&&(Rw g&&decide (Eq g (domL i)=[])))
def Cy (i:Int) (gs:List (List Span)):Bool:=decide ((gs.length:Int)≤4)&&gs.all (Jd i)
theorem Rx (i:Int) (gs:List (List Span)):PC Tryz.prog 120 [.int .i64 i,Ak gs] (.bool (Cy i gs)):=by
 have hP:=Ad gs;have hD:=D7 i;have hdl:=Xf i;refine A9 V8 ?_;unfold L4;by_cases h4:4<gs.length
 · rw[Cy,decide_eq_false (by omega),Bool.false_and]
   (with_reducible repeat' (first|(simp(disch:=omega)only[push_cast,↓zz,seval])|refine And.intro ?_ ?_|(first|refine Ab ?_ ?_|refine Aa ?_ ?_)<;>intro hc<;>(try simp only[push_cast] at hc)|omega|intro _))
 rw[Cy,decide_eq_true (by omega),Bool.true_and];(with_reducible repeat' (first|(simp(disch:=omega)only[push_cast,↓zz,seval])|refine And.intro ?_ ?_|(first|refine Ab ?_ ?_|refine Aa ?_ ?_)<;>intro hc<;>(try simp only[push_cast] at hc)|refine eK hD ?_|refine eQ hD ?_|refine eG hD ?_|((first|refine cK hD ?_|refine cQ hD ?_|refine cG hD ?_);(simp(disch:=omega)only[push_cast,↓zz,seval]);(fail_if_success change False))|omega|intro _))
 refine An (Ap (fun (k:Nat)=>k≤gs.length∧gs.all (Jd i)=(gs.drop k).all (Jd i)) (fun k=>gs.length-k)
   (fun k=>[(5,Ag (domL i)),(13,Ak gs),(14,.int .i64 gs.length),(15,.int .i64 k)]) (fun s=>[]) (fun _ _=>[]) 0 ⟨by simp,rfl⟩ ?_ ?_)
 · (with_reducible repeat' (first|(simp(disch:=omega)only[push_cast,↓zz,seval,hP])|refine And.intro ?_ ?_|(first|refine Ab ?_ ?_|refine Aa ?_ ?_)<;>intro hc<;>(try simp only[push_cast] at hc)|omega|intro _))
 rintro k ⟨h1,h2⟩;rcases Nat.lt_or_ge k gs.length with hk|hk
 · rw[drop_at hk,List.all_cons,Jd] at h2
   generalize hge:nth gs k=g at *;refine W_T ?_;by_cases hl:(g.length:Int)=0
   · rw[decide_eq_true hl,Bool.not_true,Bool.false_and,Bool.false_and] at h2
     (with_reducible repeat' (first|(simp(disch:=omega)only[push_cast,↓zz,seval,hP,hge,h2])|refine And.intro ?_ ?_|(first|refine Ab ?_ ?_|refine Aa ?_ ?_)<;>intro hc<;>(try simp only[push_cast] at hc)|omega|intro _))
   by_cases hl2:(g.length:Int)≤64
   · rw[decide_eq_false hl,decide_eq_true hl2,Bool.not_false,Bool.true_and,Bool.true_and] at h2
     have hW:=Rn g (domL i) (by omega) (by omega);have hC:=zag g (by omega);(with_reducible repeat' (first|(simp(disch:=omega)only[push_cast,↓zz,seval,hP,hge])|refine And.intro ?_ ?_|(first|refine Ab ?_ ?_|refine Aa ?_ ?_)<;>intro hc<;>(try simp only[push_cast] at hc)|refine eK hC ?_|refine eQ hC ?_|refine eG hC ?_|refine eK hW ?_|refine eQ hW ?_|refine eG hW ?_|((first|refine cK hC ?_|refine cQ hC ?_|refine cG hC ?_|refine cK hW ?_|refine cQ hW ?_|refine cG hW ?_);(simp(disch:=omega)only[push_cast,↓zz,seval,hP,hge]);(fail_if_success change False))|omega|intro _))
     all_goals first
       | (rw[h2];simp[*];done)
       | exact⟨k+1,by push_cast,⟨by omega,by rw[h2];simp[*]⟩,by omega⟩
   · rw[decide_eq_false hl2,Bool.false_and,Bool.and_false,Bool.false_and] at h2
     (with_reducible repeat' (first|(simp(disch:=omega)only[push_cast,↓zz,seval,hP,hge,h2])|refine And.intro ?_ ?_|(first|refine Ab ?_ ?_|refine Aa ?_ ?_)<;>intro hc<;>(try simp only[push_cast] at hc)|omega|intro _))
 · rw[List.drop_of_length_le hk,List.all_nil] at h2
   refine W_T ?_;(with_reducible repeat' (first|(simp(disch:=omega)only[push_cast,↓zz,seval,hP,h2])|refine And.intro ?_ ?_|(first|refine Ab ?_ ?_|refine Aa ?_ ?_)<;>intro hc<;>(try simp only[push_cast] at hc)|omega|intro _))
   all_goals trace_state
def Il (d:Desc) (s:Int):Bool:=decide (0≤s)&&decide (s<d.states)
theorem Ka (d:Desc) (s:Int):PC Tryz.prog 119 [Bp d,.int .i64 s] (.bool (Il d s)):=by
 refine A9 Zb ?_;unfold N7 Il;(with_reducible repeat' (first|(simp(disch:=omega)only[push_cast,↓zz,seval])|refine And.intro ?_ ?_|(first|refine Ab ?_ ?_|refine Aa ?_ ?_)<;>intro hc<;>(try simp only[push_cast] at hc)|omega|intro _))
 all_goals simp only[*,decide_true,decide_false,Bool.true_and,Bool.false_and]
def Ry (d:Desc):Bool:=decide (0<((domL d.in_).length:Int))&&(decide (0<((domL d.out).length:Int))&&(decide (1≤d.states)&&(decide (d.states≤1024)&&(Il d d.start&&(decide ((d.rules.length:Int)≤4096)&&decide ((d.finals.length:Int)≤4096))))))
theorem zeq (d:Desc):PC Tryz.prog 117 [Bp d] (.bool (Ry d)):=by
 have h1:=D7 d.in_;have h2:=D7 d.out;have h3:=Ka d d.start;refine A9 z2e ?_;unfold Ql Ry;(with_reducible repeat' (first|(simp(disch:=omega)only[push_cast,↓zz,seval])|refine And.intro ?_ ?_|(first|refine Ab ?_ ?_|refine Aa ?_ ?_)<;>intro hc<;>(try simp only[push_cast] at hc)|refine eK h1 ?_|refine eQ h1 ?_|refine eG h1 ?_|refine eK h2 ?_|refine eQ h2 ?_|refine eG h2 ?_|refine eK h3 ?_|refine eQ h3 ?_|refine eG h3 ?_|((first|refine cK h1 ?_|refine cQ h1 ?_|refine cG h1 ?_|refine cK h2 ?_|refine cQ h2 ?_|refine cG h2 ?_|refine cK h3 ?_|refine cQ h3 ?_|refine cG h3 ?_);(simp(disch:=omega)only[push_cast,↓zz,seval]);(fail_if_success change False))|omega|intro _))
 all_goals simp only[*,decide_true,decide_false,Bool.true_and,Bool.false_and]
 all_goals trace_state
def De (d:Desc) (out:List Term) (gs:List (List Span)):Bool:=decide ((out.length:Int)≤64)&&out.all fun t=>O7 t d.in_ d.out gs
theorem Rz (d:Desc) (out:List Term) (gs:List (List Span)) (ho:∀ t∈out,t.parts.length<1000000000000) (hg:∀ g∈gs,g.length≤1000000) (hl:gs.length≤9223372036854775807) :
   PC Tryz.prog 121 [Bp d,Be out,Ak gs] (.bool (De d out gs)):=by
 have hP:=Ad gs;have hT:=Am out;refine A9 V9 ?_;unfold L5;by_cases h4:64<out.length
 · rw[De,decide_eq_false (by omega),Bool.false_and]
   (with_reducible repeat' (first|(simp(disch:=omega)only[push_cast,↓zz,seval])|refine And.intro ?_ ?_|(first|refine Ab ?_ ?_|refine Aa ?_ ?_)<;>intro hc<;>(try simp only[push_cast] at hc)|omega|intro _))
 rw[De,decide_eq_true (by omega),Bool.true_and];(with_reducible repeat' (first|(simp(disch:=omega)only[push_cast,↓zz,seval])|refine And.intro ?_ ?_|(first|refine Ab ?_ ?_|refine Aa ?_ ?_)<;>intro hc<;>(try simp only[push_cast] at hc)|omega|intro _))
 refine An (Ap (fun (k:Nat)=>k≤out.length∧(out.all fun t=>O7 t d.in_ d.out gs)=(out.drop k).all fun t=>O7 t d.in_ d.out gs) (fun k=>out.length-k)
   (fun k=>[(2,Ak gs),(3,.ptr 0 1 0 0),(12,Be out),(13,.int .i64 out.length),(14,.int .i64 k)]) (fun s=>[⟨6,1,true,[Bp d]⟩]) (fun env _=>[A5 1 (env 3)]) 0 ⟨by simp,rfl⟩ ?_ ?_)
 · (with_reducible repeat' (first|(simp(disch:=omega)only[push_cast,↓zz,seval,hP,hT])|refine And.intro ?_ ?_|(first|refine Ab ?_ ?_|refine Aa ?_ ?_)<;>intro hc<;>(try simp only[push_cast] at hc)|omega|intro _))
 rintro k ⟨h1,h2⟩;rcases Nat.lt_or_ge k out.length with hk|hk
 · rw[drop_at hk,List.all_cons] at h2
   have hF:=zep (nth out k) d.in_ d.out gs (ho _ (Ao hk)) hg hl;refine W_T ?_;(with_reducible repeat' (first|(simp(disch:=omega)only[push_cast,↓zz,seval,hP,hT])|refine And.intro ?_ ?_|(first|refine Ab ?_ ?_|refine Aa ?_ ?_)<;>intro hc<;>(try simp only[push_cast] at hc)|refine eK hF ?_|refine eQ hF ?_|refine eG hF ?_|((first|refine cK hF ?_|refine cQ hF ?_|refine cG hF ?_);(simp(disch:=omega)only[push_cast,↓zz,seval,hP,hT]);(fail_if_success change False))|omega|intro _))
   all_goals first
     | (rw[h2];simp[*];done)
     | exact⟨k+1,by push_cast,⟨by omega,by rw[h2];simp[*]⟩,by omega⟩
 · rw[List.drop_of_length_le hk,List.all_nil] at h2
   refine W_T ?_;(with_reducible repeat' (first|(simp(disch:=omega)only[push_cast,↓zz,seval,hP,hT,h2])|refine And.intro ?_ ?_|(first|refine Ab ?_ ?_|refine Aa ?_ ?_)<;>intro hc<;>(try simp only[push_cast] at hc)|omega|intro _))
   all_goals trace_state
def eatB (n e:Int):Bool:=!decide (e<min n 1)&&!decide (n<e)
def Ew (d:Desc) (r:Rule):Bool:=Il d r.from_&&(Il d r.to_&&(Cy d.in_ r.guards&&(eatB r.guards.length r.eat&&De d r.out r.guards)))
theorem Fq {i:Int} {gs:List (List Span)} (h:Cy i gs=true):gs.length≤4∧∀ g∈gs,g.length≤64:=by
 simp only[Cy,Bool.and_eq_true,decide_eq_true_eq] at h;refine⟨by omega,fun g hg=>?_⟩;have:=List.all_eq_true.1 h.2 g hg;simp only[Jd,Bool.and_eq_true,decide_eq_true_eq] at this;omega
theorem zer (d:Desc) (r:Rule) (ho:∀ t∈r.out,t.parts.length<1000000000000):PC Tryz.prog 118 [Bp d,B6 r] (.bool (Ew d r)):=by
 have h1:=Ka d r.from_;have h2:=Ka d r.to_;have h3:=Rx d.in_ r.guards;have hP:=Ad r.guards;have hT:=Am r.out;refine A9 z2f ?_;unfold Qm Ew eatB;cases hg:Cy d.in_ r.guards with
 | false =>
   rw[hg] at h3;(with_reducible repeat' (first|(simp(disch:=omega)only[push_cast,↓zz,seval,hP,hT])|refine And.intro ?_ ?_|(first|refine Ab ?_ ?_|refine Aa ?_ ?_)<;>intro hc<;>(try simp only[push_cast] at hc)|refine eK h1 ?_|refine eQ h1 ?_|refine eG h1 ?_|refine eK h2 ?_|refine eQ h2 ?_|refine eG h2 ?_|refine eK h3 ?_|refine eQ h3 ?_|refine eG h3 ?_|((first|refine cK h1 ?_|refine cQ h1 ?_|refine cG h1 ?_|refine cK h2 ?_|refine cQ h2 ?_|refine cG h2 ?_|refine cK h3 ?_|refine cQ h3 ?_|refine cG h3 ?_);(simp(disch:=omega)only[push_cast,↓zz,seval,hP,hT]);(fail_if_success change False))|omega|intro _))
   all_goals simp only[*,decide_true,decide_false,Bool.true_and,Bool.false_and,Bool.and_false]
 | true =>
   rw[hg] at h3;obtain⟨g1,g2⟩:=Fq hg;have h4:=Rz d r.out r.guards ho (fun g hg=>by have:=g2 g hg;omega) (by omega);(with_reducible repeat' (first|(simp(disch:=omega)only[push_cast,↓zz,seval,hP,hT])|refine And.intro ?_ ?_|(first|refine Ab ?_ ?_|refine Aa ?_ ?_)<;>intro hc<;>(try simp only[push_cast] at hc)|refine eK h1 ?_|refine eQ h1 ?_|refine eG h1 ?_|refine eK h2 ?_|refine eQ h2 ?_|refine eG h2 ?_|refine eK h3 ?_|refine eQ h3 ?_|refine eG h3 ?_|refine eK h4 ?_|refine eQ h4 ?_|refine eG h4 ?_|((first|refine cK h1 ?_|refine cQ h1 ?_|refine cG h1 ?_|refine cK h2 ?_|refine cQ h2 ?_|refine cG h2 ?_|refine cK h3 ?_|refine cQ h3 ?_|refine cG h3 ?_|refine cK h4 ?_|refine cQ h4 ?_|refine cG h4 ?_);(simp(disch:=omega)only[push_cast,↓zz,seval,hP,hT]);(fail_if_success change False))|omega|intro _))
   all_goals simp only[*,decide_true,decide_false,Bool.true_and,Bool.false_and,Bool.and_false,Bool.not_true,Bool.not_false,Bool.and_true]
   all_goals trace_state
abbrev z3p (v:Nat) (l:List Int):Grp:=⟨1,v,l.isEmpty,l.map (AV.int .i64)⟩
def famF (n:Nat) (V:Nat→Nat) (D:Nat→List Int):List Grp:=(List.range n).map fun i=>z3p (V i) (D i)
def famT (n:Nat) (V:Nat→Nat) (D:Nat→List Int):List AV:=(List.range n).map fun i=>AV.ref (i+3) (V i) 0 (D i).length
def famI (n:Nat) (f:Nat→Int):List AV:=(List.range n).map fun i=>AV.int .i64 (f i)
theorem Ee {α:Type} {n i:Nat} {f:Nat→α} {x:α} (h:i<n):((List.range n).map f).set i x=(List.range n).map fun j=>if j=i then x else f j:=by
 refine List.ext_getElem (by simp) fun j h1 h2=>?_;simp only[List.length_set,List.length_map,List.length_range] at h1;simp only[List.getElem_set,List.getElem_map,List.getElem_range];by_cases e:i=j
 · rw[if_pos e,if_pos e.symm]
 · rw[if_neg e,if_neg fun h=>e h.symm]
theorem Cg {α:Type} {n i:Nat} {f:Nat→α} {z:α} (h:i<n):((List.range n).map f).getD i z=f i:=by simp[List.getD,h]
theorem H6 {ks:List Nat} {G:Grp}:∀ {l:List Grp} {p i:Nat},p+i∈ks→B7 p ks l (l.set i G)
 | [],p,i,h=>trivial
 | a::l,p,0,h=>⟨.inl h,sameBut_refl⟩
 | a::l,p,i+1,h=>⟨.inr rfl,H6 (by rwa [show p+1+i=p+(i+1) by omega])⟩
where sameBut_refl {ks:List Nat}:∀ {l:List Grp} {p:Nat},B7 p ks l l
 | [],p=>trivial
 | a::l,p=>⟨.inr rfl,sameBut_refl⟩
theorem z6y:∀ (l:List Grp) (G G':Grp),setQ (l++[G]) l.length G'=some (l++[G'])
 | [],_,_=>rfl
 | a::l,G,G'=>by rw[List.cons_append,List.length_cons,setQ,z6y l G G'];rfl
theorem z6z:∀ (l:List Grp) (G G':Grp) {i:Nat},i<l.length→setQ (l++[G]) i G'=some (l.set i G'++[G])
 | [],_,_,i,h=>by simp at h
 | a::l,G,G',0,h=>rfl
 | a::l,G,G',i+1,h=>by rw[List.cons_append,setQ,z6z l G G' (by simpa using h)];rfl
def setV (V:Nat→Nat) (i v:Nat) (j:Nat):Nat:=if j=i then v else V j
structure zty (d:Desc):Prop where
 st:1≤d.states∧d.states≤1024
 len:d.rules.length≤4096
 rul:∀ r∈d.rules,(0≤r.from_∧r.from_<d.states)∧0≤r.to_∧r.to_<d.states
def R0 (d:Desc) (k:Nat):Env:=C8 [(1,.ptr 0 1 0 0),(3,.ref 1 1 0 d.states.toNat),(4,.ref 2 1 0 d.states.toNat),(21,Dv d.rules),(22,.int .i64 d.rules.length),(23,.int .i64 k)]
def Cz (d:Desc) (k:Nat) (V:Nat→Nat):Ac:=Abs.hl (⟨6,1,true,[Bp d]⟩::⟨1,1,true,famT d.states.toNat V (toD (d.rules.take k))⟩::⟨1,1,true,famI d.states.toNat (inD (d.rules.take k))⟩::famF d.states.toNat V (toD (d.rules.take k)))
def cycL (d:Desc) (k:Nat) (V:Nat→Nat):List Grp:=⟨6,1,true,[Bp d]⟩::⟨1,1,true,famT d.states.toNat V (toD (d.rules.take k))⟩::⟨1,1,true,famI d.states.toNat (inD (d.rules.take k))⟩::famF d.states.toNat V (toD (d.rules.take k))
theorem Us (d:Desc) (k:Nat) (V:Nat→Nat):Cz d k V=Abs.hl (cycL d k V):=rfl
theorem Xg (d:Desc) (k:Nat) (V:Nat→Nat):(cycL d k V).length=d.states.toNat+3:=by simp[cycL,famF]
theorem Hh (d:Desc):(Bp d).pure=true:=by simp[Bp,AV.pure,Aw,Az,Av]
theorem z3q (d:Desc) (k:Nat) (V:Nat→Nat):∀ G∈cycL d k V,ltL (cycL d k V).length G.xs:=fun G hG=>by
 rw[Xg];simp only[cycL,List.mem_cons] at hG;rcases hG with rfl|rfl|rfl|hG
 · exact C9 _ _ (by simp[Aw,Hh])
 · have key:∀ (l:List Nat),(∀ i∈l,i<d.states.toNat)→ltL (d.states.toNat+3) (l.map fun i=>AV.ref (i+3) (V i) 0 (toD (d.rules.take k) i).length):=fun l=>by
     induction l with
     | nil=>exact fun _=>trivial
     | cons i l ih =>
       intro h;exact⟨by have:=h i (by simp);show i+3<_;omega,ih fun j hj=>h j (by simp[hj])⟩
   exact key _ fun i hi=>by simpa using hi
 · exact C9 _ _ (Bv.2 fun x hx=>by
     obtain⟨i,_,rfl⟩:=List.mem_map.1 hx
     rfl)
 · obtain⟨i,_,rfl⟩:=List.mem_map.1 hG
   exact C9 _ _ (E3 .i64 _)
theorem zes {d:Desc} {k:Nat} {V:Nat→Nat} {env:Env} {l gar:List Grp} (hn:1≤d.states) (hl':l=cycL d k V++gar)
   (h1:env 1=.ptr 0 1 0 0) (h3:env 3=.ref 1 1 0 d.states.toNat) (h4:env 4=.ref 2 1 0 d.states.toNat) (h21:env 21=Dv d.rules) (h22:env 22=.int .i64 d.rules.length) (h23:env 23=.int .i64 k) :
   Ent 105 0 env (Abs.hl l) (R0 d k) (Cz d k V):=by
 rw[hl',Us];refine (J5 [(1,.ptr 0 1 0 0),(3,.ref 1 1 0 d.states.toNat),(4,.ref 2 1 0 d.states.toNat),(21,Dv d.rules),(22,.int .i64 d.rules.length),(23,.int .i64 k)] (fun p hp=>?_)).trans (Ww (by omega) (z3q d k V) fun i _=>?_)
 · simp only[List.mem_cons,List.not_mem_nil,or_false] at hp
   rcases hp with rfl|rfl|rfl|rfl|rfl|rfl<;>assumption
 · rw[Xg]
   have hr:ltV (d.states.toNat+3) (Dv d.rules):=C5 _ _ (by simp[Dv,AV.pure,Az]);simp only[C8]
   repeat' split
   all_goals first
     | exact hr
     | trivial
     | (show _<_;omega)
theorem zjw {n i:Nat} {V:Nat→Nat} {D:Nat→List Int} {x:Int} (h:i<n):(famT n V D).set i (.ref (i+3) (V i+1) 0 ((D i).length+1))=famT n (setV V i (V i+1)) fun p=>if p=i then D i++[x] else D p:=by
 rw[famT,Ee h,famT];refine List.map_congr_left fun j _=>?_;by_cases e:j=i
 · subst e;simp[setV]
 · simp[setV,e]
theorem zjx {n i:Nat} {V:Nat→Nat} {D:Nat→List Int} {x:Int} (h:i<n):(famF n V D).set i ⟨1,V i+1,false,(D i).map (AV.int .i64)++[.int .i64 x]⟩=famF n (setV V i (V i+1)) fun p=>if p=i then D i++[x] else D p:=by
 rw[famF,Ee h,famF];refine List.map_congr_left fun j _=>?_;by_cases e:j=i
 · subst e;simp[setV,z3p]
 · simp[setV,e]
theorem z71 {n j:Nat} {f:Nat→Int} {x:Int} (h:j<n):(famI n f).set j (.int .i64 x)=famI n fun p=>if p=j then x else f p:=by
 rw[famI,Ee h,famI];refine List.map_congr_left fun p _=>?_;by_cases e:p=j
 · subst e;simp
 · simp[e]
theorem zjy {l:List Rule} {k i:Nat} (hk:k<l.length) (hi:(nth l k).from_=i) (he:Cf (nth l k)=true):toD (l.take (k+1))=fun p=>if p=i then toD (l.take k) i++[(nth l k).to_] else toD (l.take k) p:=by
 funext p;rw[take_at hk];simp only[toD,List.filter_append,List.map_append,List.filter_cons,List.filter_nil,he,Bool.true_and,hi,decide_eq_true_eq];by_cases e:p=i
 · subst e;simp
 · rw[if_neg (by omega),if_neg e];simp
theorem zjz {l:List Rule} {k j:Nat} (hk:k<l.length) (hj:(nth l k).to_=j) (he:Cf (nth l k)=true):inD (l.take (k+1))=fun p=>if p=j then inD (l.take k) j+1 else inD (l.take k) p:=by
 funext p;rw[take_at hk];simp only[inD,List.filter_append,List.length_append,List.filter_cons,List.filter_nil,he,Bool.true_and,hj,decide_eq_true_eq];by_cases e:p=j
 · subst e;simp
 · rw[if_neg (by omega),if_neg e];simp
theorem zk0 {l:List Rule} {k:Nat} (hk:k<l.length) (he:Cf (nth l k)=false):toD (l.take (k+1))=toD (l.take k)∧inD (l.take (k+1))=inD (l.take k):=by
 rw[take_at hk];refine⟨?_,?_⟩<;>funext p<;>simp[toD,inD,he]
theorem zet (l:List Rule) (j:Nat):0≤inD l j∧inD l j≤l.length:=by
 have:=List.length_filter_le (fun r=>Cf r&&decide (r.to_=j)) l;simp only[inD];omega
theorem zlr (l:List Rule) (j:Nat):(toD l j).length≤l.length:=by
 have:=List.length_filter_le (fun r=>Cf r&&decide (r.from_=j)) l;simp only[toD,List.length_map];omega
theorem Li (l0:List Grp):∀ l:List Grp,Ic l0 l l
 | []=>trivial
 | G::l=>⟨⟨rfl,rfl,id,A7 _ _⟩,Li l0 l⟩
theorem zk1 (n:Nat):famF n (fun _=>1) (toD [])=(List.replicate n 1).map Io:=by
 rw[List.map_replicate];refine List.ext_getElem (by simp[famF]) fun i h1 h2=>?_;simp only[famF,List.getElem_map,List.getElem_range,List.getElem_replicate];rfl
theorem zk2 (n:Nat):famI n (inD [])=List.replicate n (.int .i64 0):=by
 refine List.ext_getElem (by simp[famI]) fun i h1 h2=>?_;simp[famI,inD]
theorem zeu {l:List Grp} {n:Nat} (h:∀ i,i<n→l.getD (i+3) default=Io 1∧i+3<l.length):leSL l (List.replicate n .nilS) (famT n (fun _=>1) (toD [])):=by
 have key:∀ idx:List Nat,(∀ i∈idx,i<n)→leSL l (List.replicate idx.length .nilS) (idx.map fun i=>AV.ref (i+3) 1 0 (toD [] i).length):=fun idx=>by
   induction idx with
   | nil=>exact fun _=>rfl
   | cons i idx ih =>
     intro hi;obtain⟨h1,h2⟩:=h i (hi i (by simp));refine⟨?_,ih fun j hj=>hi j (by simp[hj])⟩;show 0=0∧(toD [] i).length=0∧(l.getD (i+3) default).ver=1∧0<(l.getD (i+3) default).w∧(l.getD (i+3) default).xs=[]∧(l.getD (i+3) default).exact=true∧i+3<l.length;rw[h1];exact⟨rfl,rfl,rfl,by decide,rfl,rfl,h2⟩
 have:=key (List.range n) fun i hi=>by simpa using hi
 rwa [List.length_range] at this
theorem zev {d:Desc} {env:Env} (h1:env 1=.ptr 0 1 0 0) (h3:env 3=.ref 1 1 0 d.states.toNat) (h4:env 4=.ref 2 1 0 d.states.toNat) (h21:env 21=Dv d.rules) (h22:env 22=.int .i64 d.rules.length) (h23:env 23=.int .i64 0) :
   Ent 105 0 env (Abs.hl [⟨6,1,true,[Bp d]⟩,⟨1,1,true,List.replicate d.states.toNat .nilS⟩,⟨1,1,true,List.replicate d.states.toNat (.int .i64 0)⟩]) (R0 d 0) (Cz d 0 fun _=>1):=by
 refine (J5 [(1,.ptr 0 1 0 0),(3,.ref 1 1 0 d.states.toNat),(4,.ref 2 1 0 d.states.toNat),(21,Dv d.rules),(22,.int .i64 d.rules.length),(23,.int .i64 0)] (fun p hp=>?_)).trans
   ((z6l (List.replicate d.states.toNat 1) (fun w hw=>by have:=(List.mem_replicate.1 hw).2;omega)).trans (zln ?_ fun i _=>Hv _ _))
 · simp only[List.mem_cons,List.not_mem_nil,or_false] at hp
   rcases hp with rfl|rfl|rfl|rfl|rfl|rfl<;>assumption
 · rw[List.take_zero,zk1,zk2]
   refine⟨⟨rfl,rfl,id,A7 _ _⟩,⟨rfl,rfl,id,zeu fun i hi=>?_⟩,⟨rfl,rfl,id,A7 _ _⟩,Li _ _⟩;refine⟨?_,by simp;omega⟩;rw[List.map_replicate];simp[List.getD,hi]
def zew (n:Nat) (D:Nat→List Int):AV:=.lst 1 ((List.range n).map fun i=>E6 (D i))
theorem z0h {n b:Nat} {env:Env} {H H':Ac} (hn:H'.n=H.n) (h:∀ g,g<H.n→H'.at_ g=H.at_ g):Ent n b env H env H':=fun S val hb hS hv=>⟨S,rfl,.refl hb,hS.congr hn h,hv⟩
def Mt (n:Nat):List Nat:=1::(List.range n).map (·+3)
theorem z0i {n i:Nat} (h:i<n):i+3∈Mt n:=List.mem_cons.2 (.inr (List.mem_map.2 ⟨i,List.mem_range.2 h,rfl⟩))
theorem zls (d:Desc) (k:Nat) (V:Nat→Nat) {i:Nat} (hi:i<d.states.toNat):(Cz d k V).at_ (i+3)=z3p (V i) (toD (d.rules.take k) i):=by
 rw[Cz,Ck];simp only[List.getD_cons_succ];exact Cg hi
theorem zpw (d:Desc) (k:Nat) (V:Nat→Nat):Cn 2 ((Cz d k V).only (Mt d.states.toNat)) (.ref 1 1 0 d.states.toNat)∧frzV 2 ((Cz d k V).only (Mt d.states.toNat)) (.ref 1 1 0 d.states.toNat)=zew d.states.toNat (toD (d.rules.take k)):=by
 have hat1:((Cz d k V).only (Mt d.states.toNat)).at_ 1=⟨1,1,true,famT d.states.toNat V (toD (d.rules.take k))⟩:=by
   show (if 1∈Mt d.states.toNat then (Cz d k V).at_ 1 else ((Cz d k V).at_ 1).dead)=_;rw[if_pos (by simp[Mt])];rfl
 have hat:∀ i,i<d.states.toNat→((Cz d k V).only (Mt d.states.toNat)).at_ (i+3)=z3p (V i) (toD (d.rules.take k) i):=fun i hi=>by
   show (if i+3∈Mt d.states.toNat then (Cz d k V).at_ (i+3) else ((Cz d k V).at_ (i+3)).dead)=_;rw[if_pos (z0i hi)];exact zls d k V hi
 have htl:(((famT d.states.toNat V (toD (d.rules.take k))).drop 0).take d.states.toNat)=famT d.states.toNat V (toD (d.rules.take k)):=by
   rw[List.drop_zero];exact List.take_of_length_le (by simp[famT])
 constructor
 · refine⟨by rw[hat1],by rw[hat1];exact Nat.one_pos,by rw[hat1];simp[famT],fun y hy=>?_⟩
   rw[hat1,htl] at hy;obtain⟨i,hi,rfl⟩:=List.mem_map.1 hy;have hi':i<d.states.toNat:=by simpa using hi
   refine⟨by rw[hat i hi'],by rw[hat i hi'];exact Nat.one_pos,by rw[hat i hi'];simp,fun z hz=>?_⟩;rw[hat i hi'] at hz;obtain⟨u,_,rfl⟩:=List.mem_map.1 (List.mem_of_mem_drop (List.mem_of_mem_take hz));rfl
 · show AV.lst _ _=_
   rw[hat1,htl,zew,famT,List.map_map];congr 1;refine List.map_congr_left fun i hi=>?_;have hi':i<d.states.toNat:=by simpa using hi
   show AV.lst _ _=_;rw[hat i hi']
   have e:(((z3p (V i) (toD (d.rules.take k) i)).xs.drop 0).take (toD (d.rules.take k) i).length).map (frzV 0 ((Cz d k V).only (Mt d.states.toNat)))=(toD (d.rules.take k) i).map (AV.int .i64):=by
     rw[List.drop_zero,List.take_of_length_le (by simp[z3p])];refine (List.map_congr_left fun x hx=>?_).trans (List.map_id _);obtain⟨u,_,rfl⟩:=List.mem_map.1 hx;rfl
   rw[e]
def Kb (d:Desc) (k:Nat):List (Nat × AV):=[(1,.ptr 0 1 0 0),(3,zew d.states.toNat (toD (d.rules.take k))),(4,.ref 2 1 0 d.states.toNat),(7,.nilS),(52,.ref 2 1 0 d.states.toNat),(53,.int .i64 d.states.toNat),(54,.int .i64 0)]
theorem zah {d:Desc} {k:Nat} {V:Nat→Nat} {env:Env} (h1:env 1=.ptr 0 1 0 0) (h3:env 3=.ref 1 1 0 d.states.toNat) (h4:env 4=.ref 2 1 0 d.states.toNat) (h7:env 7=.nilS) (h52:env 52=.ref 2 1 0 d.states.toNat) (h53:env 53=.int .i64 d.states.toNat) (h54:env 54=.int .i64 0) :
   Ent 105 0 env (Cz d k V) (C8 (Kb d k)) (Abs.hl [⟨6,1,true,[Bp d]⟩,⟨0,2,false,[]⟩,⟨1,1,true,famI d.states.toNat (inD (d.rules.take k))⟩]):=by
 obtain⟨f1,f2⟩:=zpw d k V;rw[←h3] at f1 f2;refine (ze1 3 2 (Mt d.states.toNat) f1).trans ((J5 (Kb d k) fun p hp=>?_).trans ((z0h (H':=Abs.hl ([⟨6,1,true,[Bp d]⟩,⟨0,2,false,[]⟩,⟨1,1,true,famI d.states.toNat (inD (d.rules.take k))⟩]++(famF d.states.toNat V (toD (d.rules.take k))).map Grp.dead)) ?_ ?_).trans (Ww (by omega) ?_ ?_)))
 · rw[f2]
   simp only[Kb,List.mem_cons,List.not_mem_nil,or_false] at hp;rcases hp with rfl|rfl|rfl|rfl|rfl|rfl|rfl<;>first|rfl|assumption
 · simp[Cz,Ac.kill,Abs.hl]
 · intro g hg
   show _=if g∈Mt d.states.toNat then ((Cz d k V).at_ g).dead else (Cz d k V).at_ g
   have hlen:(Cz d k V).n=d.states.toNat+3:=Xg d k V;have hg':g<d.states.toNat+3:=by rw[←hlen];exact hg
   match g,hg' with
   | 0,_=>rw[if_neg (by simp[Mt])];rfl
   | 1,_=>rw[if_pos (by simp[Mt])];rfl
   | 2,_=>rw[if_neg (by simp[Mt])];rfl
   | i+3,hi =>
     have hi':i<d.states.toNat:=by omega
     rw[if_pos (z0i hi'),zls d k V hi',Ck];simp only[List.cons_append,List.nil_append,List.getD_cons_succ,famF,List.map_map];exact Cg hi'
 · intro G hG
   simp only[List.mem_cons,List.not_mem_nil,or_false] at hG;rcases hG with rfl|rfl|rfl
   · exact C9 _ _ (by simp[Aw,Hh])
   · trivial
   · exact C9 _ _ (Bv.2 fun x hx=>by
       obtain⟨i,_,rfl⟩:=List.mem_map.1 hx
       rfl)
 · intro i _
   have hd:ltV 3 (zew d.states.toNat (toD (d.rules.take k))):=trivial;simp only[C8,Kb]
   repeat' split
   all_goals first
     | exact hd
     | trivial
     | (show _<_;simp)
theorem zai (d:Desc) (hd:zty d):PC Tryz.prog 122 [Bp d] (.bool (@decide (cycP d.rules d.states.toNat) (Classical.propDecidable _))):=by
 obtain⟨⟨hn1,hn2⟩,hlen,hrul⟩:=hd;have hP:=Az d.rules;refine A9 Zc ?_;unfold N8;(with_reducible repeat' (first|(simp(disch:=omega)only[push_cast,↓zz,seval])|refine And.intro ?_ ?_|(first|refine Ab ?_ ?_|refine Aa ?_ ?_)<;>intro hc<;>(try simp only[push_cast] at hc)|omega|intro _));refine An (Ng (fun (s:Nat × (Nat→Nat))=>s.1≤d.rules.length) (fun s=>d.rules.length-s.1) (fun s=>R0 d s.1) (fun s=>Cz d s.1 s.2) (0,fun _=>1) (by simp) ?_ ?_)
 · exact zev rfl rfl rfl rfl rfl rfl
 rintro⟨k,V⟩ hk;simp only at hk ⊢;rcases Nat.lt_or_ge k d.rules.length with hkl|hkl
 · have hr:=hrul _ (Ao hkl)
   generalize hre:nth d.rules k=r at *;have hgr:=Ad r.guards;have hot:=Am r.out;obtain⟨n,hn⟩:∃ n:Nat,d.states=n:=⟨d.states.toNat,by omega⟩;obtain⟨i,hi⟩:∃ i:Nat,r.from_=i:=⟨r.from_.toNat,by omega⟩;obtain⟨j,hj⟩:∃ j:Nat,r.to_=j:=⟨r.to_.toNat,by omega⟩;have hin:i<n:=by omega
   have hjn:j<n:=by omega
   have hni:¬n=i:=by omega
   have ee:R0 d k=C8 [(1,.ptr 0 1 0 0),(3,.ref 1 1 0 n),(4,.ref 2 1 0 n),(21,Dv d.rules),(22,.int .i64 d.rules.length),(23,.int .i64 k)]:=by simp only[R0,hn,Int.toNat_natCast]
   have eh:Cz d k V=Abs.hl (⟨6,1,true,[Bp d]⟩::⟨1,1,true,famT n V (toD (d.rules.take k))⟩::⟨1,1,true,famI n (inD (d.rules.take k))⟩::famF n V (toD (d.rules.take k))):=by simp only[Cz,hn,Int.toNat_natCast]
   rw[ee,eh];clear ee eh;have hFl:(famF n V (toD (d.rules.take k))).length=n:=by simp[famF]
   have hTl:(famT n V (toD (d.rules.take k))).length=n:=by simp[famT]
   have hIl:(famI n (inD (d.rules.take k))).length=n:=by simp[famI]
   have gI:∀ G,(famF n V (toD (d.rules.take k))++[G]).getD i default=z3p (V i) (toD (d.rules.take k) i):=fun G=>by
     rw[List.getD_eq_getElem?_getD,List.getElem?_append_left (by omega),←List.getD_eq_getElem?_getD];exact Cg hin
   have gR:∀ G,(famF n V (toD (d.rules.take k))++[G]).getD n default=G:=fun G=>by
     rw[List.getD_eq_getElem?_getD,List.getElem?_append_right (by omega)];simp[hFl]
   have tI:(famT n V (toD (d.rules.take k))).getD i .any=.ref (i+3) (V i) 0 (toD (d.rules.take k) i).length:=Cg hin;have iJ:(famI n (inD (d.rules.take k))).getD j .any=.int .i64 (inD (d.rules.take k) j):=Cg hjn
   have sR:∀ G G',setQ (famF n V (toD (d.rules.take k))++[G]) n G'=some (famF n V (toD (d.rules.take k))++[G']):=fun G G'=>by
     have:=z6y (famF n V (toD (d.rules.take k))) G G'
     rwa [hFl] at this
   have sI:∀ G G',setQ (famF n V (toD (d.rules.take k))++[G]) i G'=some ((famF n V (toD (d.rules.take k))).set i G'++[G]):=fun G G'=>z6z _ _ _ (by omega)
   have gR2:∀ G G',((famF n V (toD (d.rules.take k))).set i G'++[G]).getD n default=G:=fun G G'=>by
     rw[List.getD_eq_getElem?_getD,List.getElem?_append_right (by simp[hFl])];simp[hFl]
   have hSB:∀ R G,B7 3 [i+3] (famF n V (toD (d.rules.take k))++[R]) ((famF n V (toD (d.rules.take k))).set i G++[R]):=fun R G=>by
     rw[←List.set_append_left _ _ (by omega)];exact H6 (by simp;omega)
   generalize hF:famF n V (toD (d.rules.take k))=F at *;generalize hT:famT n V (toD (d.rules.take k))=TT at *;generalize hI:famI n (inD (d.rules.take k))=II at *;generalize hD:toD (d.rules.take k) i=Di at *;generalize hJ:inD (d.rules.take k) j=Ij at *;refine W_T ?_;have hEx:(!Di.isEmpty||(Di.map (AV.int .i64)).isEmpty)=true:=by cases Di<;>rfl
   have hDl:Di.length≤4096:=by rw[←hD];have:=zlr (d.rules.take k) i;simp at this;omega
   have hJb:0≤Ij∧Ij≤4096:=by rw[←hJ];have:=zet (d.rules.take k) j;simp at this;omega
   (with_reducible repeat' (first|(simp(disch:=omega)only[push_cast,↓zz,seval,hP,hre,hi,hj,hFl,hTl,hIl,gI,gR,gR2,sR,sI,tI,iJ,List.cons_append,List.length_append,List.length_cons])|refine And.intro ?_ ?_|(first|refine Ab ?_ ?_|refine Aa ?_ ?_)<;>intro hc<;>(try simp only[push_cast] at hc)|omega|intro _))
   · refine B8 [i+3] ?_
     (with_reducible repeat' (first|(simp(disch:=omega)only[push_cast,↓zz,seval,xx,List.mem_cons,List.not_mem_nil,or_false,false_or,not_or,not_false_eq_true,true_or,or_true,hP,hre,hi,hj,hFl,hTl,hIl,gI,gR,gR2,sR,sI,tI,iJ,List.cons_append,List.length_append,List.length_cons,hni,hEx])|refine And.intro ?_ ?_|(first|refine Ab ?_ ?_|refine Aa ?_ ?_)<;>intro hc<;>(try simp only[push_cast] at hc)|omega|intro _))
     · exact hSB _ _
     have he:Cf (nth d.rules k)=true:=by rw[hre,Cf];simpa using ‹(r.guards.length:Int)=0›
     have e1:=zjy (i:=i) hkl (by rw[hre];exact hi) he;have e2:=zjz (j:=j) hkl (by rw[hre];exact hj) he;refine⟨(k+1,setV V i (V i+1)),zes (gar:=[⟨5,1,true,[.agg [.int .i64 i,.int .i64 j,Ak r.guards,.int .i64 r.eat,Be r.out]]⟩]) hn1 ?_ ?_ ?_ ?_ ?_ ?_ ?_,by simp only;omega,by simp only;omega⟩
     · rw[cycL,e1,e2,hn,Int.toNat_natCast,←hF,←hT,←hI,←hD,←hJ,hre,hj,zjw hin,z71 hjn,zjx hin]
       rfl
     all_goals first|rfl|(rw[hn];rfl)
   · have he:Cf (nth d.rules k)=false:=by rw[hre,Cf];simpa using ‹¬(r.guards.length:Int)=0›
     obtain⟨e1,e2⟩:=zk0 hkl he;refine⟨(k+1,V),zes (gar:=[⟨5,1,true,[.agg [.int .i64 i,.int .i64 j,Ak r.guards,.int .i64 r.eat,Be r.out]]⟩]) hn1 ?_ ?_ ?_ ?_ ?_ ?_ ?_,by simp only;omega,by simp only;omega⟩
     · rw[cycL,e1,e2,hn,Int.toNat_natCast,hF,hT,hI]
       rfl
     all_goals first|rfl|(rw[hn];rfl)
 · obtain rfl:k=d.rules.length:=by omega
   obtain⟨n,hn⟩:∃ n:Nat,d.states=n:=⟨d.states.toNat,by omega⟩;have ee:R0 d d.rules.length=C8 [(1,.ptr 0 1 0 0),(3,.ref 1 1 0 n),(4,.ref 2 1 0 n),(21,Dv d.rules),(22,.int .i64 d.rules.length),(23,.int .i64 d.rules.length)]:=by simp only[R0,hn,Int.toNat_natCast]
   refine W_T ?_;rw[ee,Us];(with_reducible repeat' (first|(simp(disch:=omega)only[push_cast,↓zz,seval,hP])|refine And.intro ?_ ?_|(first|refine Ab ?_ ?_|refine Aa ?_ ?_)<;>intro hc<;>(try simp only[push_cast] at hc)|omega|intro _));refine zpj (zah rfl (by rw[hn];rfl) (by rw[hn];rfl) rfl (by rw[hn];rfl) (by rw[hn];rfl) rfl) ?_
   have el:Kb d d.rules.length=[(1,.ptr 0 1 0 0),(3,.lst 1 ((List.range n).map fun i=>E6 (toD d.rules i))),(4,.ref 2 1 0 n),(7,.nilS),(52,.ref 2 1 0 n),(53,.int .i64 n),(54,.int .i64 0)]:=by
     simp only[Kb,hn,Int.toNat_natCast,List.take_length,zew]
   rw[el,hn,Int.toNat_natCast,List.take_length];clear el ee
   have pL:Aw ((List.range n).map fun i=>E6 (toD d.rules i))=true:=Bv.2 fun x hx=>by
     obtain⟨i,_,rfl⟩:=List.mem_map.1 hx;exact E3 .i64 _
   have lL:((List.range n).map fun i=>E6 (toD d.rules i)).length=n:=by simp
   have aL:∀ i,i<n→((List.range n).map fun i=>E6 (toD d.rules i)).getD i .any=E6 (toD d.rules i):=fun i hi=>Cg hi;have aL2:∀ i,i<n→((List.range n).map fun i=>E6 (toD d.rules i))[i]? = some (E6 (toD d.rules i)):=fun i hi=>by simp[hi]
   generalize hLe:(List.range n).map (fun i=>E6 (toD d.rules i))=L at *
   have pI:∀ f,Aw (famI n f)=true:=fun f=>Bv.2 fun x hx=>by
     obtain⟨i,_,rfl⟩:=List.mem_map.1 hx;rfl
   have lI:∀ f,(famI n f).length=n:=fun f=>by simp[famI]
   have aI:∀ f i,i<n→(famI n f).getD i .any=.int .i64 (f i):=fun f i hi=>Cg hi;have hnn:(n:Int)≤1024:=by omega
   refine An (Ap (fun (k:Nat)=>k≤n) (fun k=>n-k)
     (fun k=>[(1,.ptr 0 1 0 0),(3,.lst 1 L),(4,.ref 1 1 0 n),(7,.ref 2 1 0 (Lg (inD d.rules) k).length),(52,.ref 1 1 0 n),(53,.int .i64 n),(54,.int .i64 k)]) (fun k=>[⟨6,1,true,[Bp d]⟩,⟨1,1,true,famI n (inD d.rules)⟩,⟨1,1,false,(Lg (inD d.rules) k).map (AV.int .i64)⟩]) (fun env _=>[A5 1 (env 1),A5 1 (env 4),A5 1 (env 7)]) 0 (by simp) ?_ ?_)
   · have z0:Lg (inD d.rules) 0=[]:=rfl
     (with_reducible repeat' (first|(simp(disch:=omega)only[push_cast,↓zz,seval,pL,lL,pI,lI,z0])|refine And.intro ?_ ?_|(first|refine Ab ?_ ?_|refine Aa ?_ ?_)<;>intro hc<;>(try simp only[push_cast] at hc)|omega|intro _))
   intro k hk;have zl:=ze3 (inD d.rules) k;rcases Nat.lt_or_ge k n with hkn|hkn
   · have aK:=aI (inD d.rules) k hkn
     have zs:=z9l (inD d.rules) k;have hib:=zet d.rules k;generalize inD d.rules k=v at *;refine W_T ?_;(with_reducible repeat' (first|(simp(disch:=omega)only[push_cast,↓zz,seval,pL,lL,pI,lI,aK])|refine And.intro ?_ ?_|(first|refine Ab ?_ ?_|refine Aa ?_ ?_)<;>intro hc<;>(try simp only[push_cast] at hc)|omega|intro _))
     · rw[if_pos (by assumption)] at zs
       refine⟨k+1,?_⟩;(with_reducible repeat' (first|(simp(disch:=omega)only[push_cast,↓zz,seval,zs])|refine And.intro ?_ ?_|(first|refine Ab ?_ ?_|refine Aa ?_ ?_)<;>intro hc<;>(try simp only[push_cast] at hc)|omega|intro _))
     · rw[if_neg (by assumption)] at zs
       refine⟨k+1,?_⟩;(with_reducible repeat' (first|(simp(disch:=omega)only[push_cast,↓zz,seval,zs])|refine And.intro ?_ ?_|(first|refine Ab ?_ ?_|refine Aa ?_ ?_)<;>intro hc<;>(try simp only[push_cast] at hc)|omega|intro _))
   · have hkn2:n=k:=by omega
     subst hkn2;refine W_T ?_;(with_reducible repeat' (first|(simp(disch:=omega)only[push_cast,↓zz,seval,pL,lL,pI,lI])|refine And.intro ?_ ?_|(first|refine Ab ?_ ?_|refine Aa ?_ ?_)<;>intro hc<;>(try simp only[push_cast] at hc)|omega|intro _))
     have hto:∀ s m,m<(toD d.rules s).length→0≤nth (toD d.rules s) m∧nth (toD d.rules s) m<n:=fun s m hm=>by
       have hm2:nth (toD d.rules s) m∈toD d.rules s:=Ao hm;generalize nth (toD d.rules s) m=x at *;obtain⟨r,hr,rfl⟩:=List.mem_map.1 hm2;have:=hrul r (List.mem_filter.1 hr).1;omega
     refine An (Ap (fun (s:List Int × List Int × List Int)=>KInv d.rules n (s.1++s.2.1) (cntE d.rules s.1)) (fun s=>n-s.1.length)
       (fun s=>[(1,.ptr 0 1 0 0),(3,.lst 1 L),(4,.ref 1 1 0 n),(7,.ref 2 1 s.2.2.length s.2.1.length),(10,.int .i64 s.1.length)]) (fun s=>[⟨6,1,true,[Bp d]⟩,⟨1,1,true,famI n (cntE d.rules s.1)⟩,⟨1,1,false,(s.2.2++s.2.1).map (AV.int .i64)⟩]) (fun env _=>[A5 1 (env 1),A5 1 (env 4),A5 1 (env 7)]) ([],Lg (inD d.rules) n,[]) (z9m d.rules n) ?_ ?_)
     · have e0:cntE d.rules []=inD d.rules:=funext fun j=>Wx _ _
       (with_reducible repeat' (first|(simp(disch:=omega)only[push_cast,↓zz,seval,pL,lL,pI,lI,e0])|refine And.intro ?_ ?_|(first|refine Ab ?_ ?_|refine Aa ?_ ?_)<;>intro hc<;>(try simp only[push_cast] at hc)|omega|intro _))
     rintro⟨P,td,junk⟩ hK;simp only at hK;have hlen2:=hK.len;rw[List.length_append] at hlen2;rcases td with _|⟨x,rest⟩
     · rw[List.append_nil] at hK
       have hdone:=ze6 (fun r hr=>by have:=hrul r hr;omega) hK;refine W_T ?_;(with_reducible repeat' (first|(simp(disch:=omega)only[push_cast,↓zz,seval,pL,lL,pI,lI])|refine And.intro ?_ ?_|(first|refine Ab ?_ ?_|refine Aa ?_ ?_)<;>intro hc<;>(try simp only[push_cast] at hc)|omega|intro _))
       all_goals exact decide_eq_decide.2 (by rw[←hdone];omega)
     · have hx:=hK.range x (by simp)
       obtain⟨s,rfl⟩:∃ s:Nat,x=s:=⟨x.toNat,by omega⟩;have hsn:s<n:=by omega
       have hsP:(s:Int)∉P:=fun hh=>by
         exact (List.nodup_append.1 hK.nodup).2.2 (s:Int) hh (s:Int) (by simp) rfl
       have aS:=aL s hsn;have aS2:=aL2 s hsn;have j0:(junk.map (AV.int .i64)++AV.int .i64 (s:Int)::rest.map (AV.int .i64)).getD junk.length .any=.int .i64 s:=by simp[List.getD]
       have j1:nth (junk++(s:Int)::rest) junk.length=s:=by simp[nth]
       have hjl:(junk++(s:Int)::rest).length=junk.length+(rest.length+1):=by simp
       simp only[List.length_cons] at hlen2;refine W_T ?_;(with_reducible repeat' (first|(simp(disch:=omega)only[push_cast,↓zz,seval,pL,lL,pI,lI,aS,aS2,j0,j1,hjl,List.length_cons])|refine And.intro ?_ ?_|(first|refine Ab ?_ ?_|refine Aa ?_ ?_)<;>intro hc<;>(try simp only[push_cast] at hc)|omega|intro _))
       have hK0:KInv d.rules n (P++[(s:Int)]++rest) (E0 d.rules P s 0):=by
         rw[Ue,List.append_assoc];exact hK
       have hDb:=zlr d.rules s
       refine An (Ap (fun (q:Nat × List Int × List Int)=>q.1≤(toD d.rules s).length∧KInv d.rules n (P++[(s:Int)]++q.2.1) (E0 d.rules P s q.1)) (fun q=>(toD d.rules s).length-q.1)
         (fun q=>[(1,.ptr 0 1 0 0),(3,.lst 1 L),(4,.ref 1 1 0 n),(7,.ref 2 1 q.2.2.length q.2.1.length),(10,.int .i64 P.length),(79,E6 (toD d.rules s)),(80,.int .i64 (toD d.rules s).length),(81,.int .i64 q.1)]) (fun q=>[⟨6,1,true,[Bp d]⟩,⟨1,1,true,famI n (E0 d.rules P s q.1)⟩,⟨1,1,false,(q.2.2++q.2.1).map (AV.int .i64)⟩]) (fun env _=>[A5 1 (env 1),A5 1 (env 4),A5 1 (env 7)]) (0,rest,junk++[(s:Int)]) ⟨by simp,hK0⟩ ?_ ?_)
       · have e0:=Ue d.rules P s
         (with_reducible repeat' (first|(simp(disch:=omega)only[push_cast,↓zz,seval,pL,lL,pI,lI,e0,List.map_append,List.append_assoc,List.map_cons,List.map_nil,List.cons_append,List.nil_append,List.length_append,List.length_cons,List.length_nil])|refine And.intro ?_ ?_|(first|refine Ab ?_ ?_|refine Aa ?_ ?_)<;>intro hc<;>(try simp only[push_cast] at hc)|omega|intro _))
       rintro⟨m,td,jk⟩ ⟨m1,m2⟩;simp only at m1 m2;have hlen3:=m2.len;simp only[List.length_append,List.length_cons,List.length_nil] at hlen3;rcases Nat.lt_or_ge m (toD d.rules s).length with hm|hm
       · obtain⟨t1,t2⟩:=hto s m hm
         obtain⟨t,ht⟩:∃ t:Nat,nth (toD d.rules s) m=t:=⟨(nth (toD d.rules s) m).toNat,by omega⟩;have htn:t<n:=by omega
         have hst:=ze5 hsP hm ht htn m2;have hle:=Nh (P:=P) hm ht;have hps:=z00 hsP hm ht;have aT:=aI (E0 d.rules P s m) t htn;have aT2:=aI (E0 d.rules P s (m+1)) t htn;have hv:E0 d.rules P s (m+1) t=E0 d.rules P s m t-1:=by rw[hle];simp
         have hset:(famI n (E0 d.rules P s m)).set t (.int .i64 (E0 d.rules P s m t-1))=famI n (E0 d.rules P s (m+1)):=by rw[hle];exact z71 htn
         have hlb:E0 d.rules P s m t≤4096:=by
           have c1:cntE d.rules P t≤inD d.rules t:=by
             rw[←Wx];exact zpl _ _ _
           have c2:=zet d.rules t;have c3:E0 d.rules P s m t≤cntE d.rules P t:=by simp only[E0];omega
           omega
         rw[hv] at aT2;generalize E0 d.rules P s m t=v at *;refine W_T ?_
         have eD:List.drop jk.length (jk.map (AV.int .i64)++td.map (AV.int .i64))=td.map (AV.int .i64):=by
           rw[List.drop_append_of_le_length (by simp),List.drop_eq_nil_of_le (by simp),List.nil_append]
         (with_reducible repeat' (first|(simp(disch:=omega)only[push_cast,↓zz,seval,pL,lL,pI,lI,ht,aT,aT2,hset,eD])|refine And.intro ?_ ?_|(first|refine Ab ?_ ?_|refine Aa ?_ ?_)<;>intro hc<;>(try simp only[push_cast] at hc)|omega|intro _))
         · rw[if_pos (by assumption)] at hst
           refine⟨(m+1,td++[(t:Int)],jk),?_⟩;(with_reducible repeat' (first|(simp(disch:=omega)only[push_cast,↓zz,seval,List.map_append,List.append_assoc,List.map_cons,List.map_nil,List.length_append,List.length_cons,List.length_nil])|refine And.intro ?_ ?_|(first|refine Ab ?_ ?_|refine Aa ?_ ?_)<;>intro hc<;>(try simp only[push_cast] at hc)|omega|intro _));simpa [List.append_assoc] using hst
         · rw[if_pos (by assumption)] at hst
           refine⟨(m+1,td++[(t:Int)],[]),?_⟩;(with_reducible repeat' (first|(simp(disch:=omega)only[push_cast,↓zz,seval,List.map_append,List.append_assoc,List.map_cons,List.map_nil,List.nil_append,List.length_append,List.length_cons,List.length_nil])|refine And.intro ?_ ?_|(first|refine Ab ?_ ?_|refine Aa ?_ ?_)<;>intro hc<;>(try simp only[push_cast] at hc)|omega|intro _));simpa [List.append_assoc] using hst
         · rw[if_neg (by assumption)] at hst
           refine⟨(m+1,td,jk),?_⟩;(with_reducible repeat' (first|(simp(disch:=omega)only[push_cast,↓zz,seval])|refine And.intro ?_ ?_|(first|refine Ab ?_ ?_|refine Aa ?_ ?_)<;>intro hc<;>(try simp only[push_cast] at hc)|omega|intro _));simpa [List.append_assoc] using hst
       · have hme:m=(toD d.rules s).length:=by omega
         subst hme;have hE:=ze4 (l:=d.rules) hsP;rw[hE] at m2;rw[hE];refine W_T ?_;(with_reducible repeat' (first|(simp(disch:=omega)only[push_cast,↓zz,seval,pL,lL,pI,lI])|refine And.intro ?_ ?_|(first|refine Ab ?_ ?_|refine Aa ?_ ?_)<;>intro hc<;>(try simp only[push_cast] at hc)|omega|intro _))
         all_goals
           refine⟨(P++[(s:Int)],td,jk),?_⟩;(with_reducible repeat' (first|(simp(disch:=omega)only[push_cast,↓zz,seval,List.length_append,List.length_cons,List.length_nil])|refine And.intro ?_ ?_|(first|refine Ab ?_ ?_|refine Aa ?_ ?_)<;>intro hc<;>(try simp only[push_cast] at hc)|omega|intro _))
         all_goals (simpa [List.append_assoc] using m2)
def E8 {α:Type} (p:α→Bool):List α→Nat→Option Nat
 | [],_=>none
 | x::l,i=>if p x then E8 p l (i+1) else some i
theorem Pn {α:Type} [Inhabited α] {p:α→Bool} {l:List α} {k:Nat} (h:k<l.length):E8 p (l.drop k) k=if p (nth l k) then E8 p (l.drop (k+1)) (k+1) else some k:=by rw[drop_at h,E8]
theorem Hi {α:Type} {p:α→Bool}:∀ {l:List α} {i:Nat},E8 p l i=none→∀ x∈l,p x=true
 | [],_,_,_,h=>by cases h
 | y::l,i,h,x,hx=>by
   rw[E8] at h;split at h
   · rename_i hp
     rcases List.mem_cons.1 hx with rfl|hx
     · exact hp
     · exact Hi h x hx
   · cases h
def Df (d:Desc) (f:Cw):Bool:=Il d f.from_&&(Cy d.in_ f.guards&&De d f.out f.guards)
open Classical in
noncomputable def D8 (d:Desc):Int × Int :=
 if Ry d=false then (1,0) else
   match E8 (Ew d) d.rules 0 with
   | some i=>(2,i)
   | none=>match E8 (Df d) d.finals 0 with
     | some i=>(3,i)
     | none=>if cycP d.rules d.states.toNat then (4,0) else (0,0)
def Gh (d:Desc):Prop:=(∀ r∈d.rules,∀ t∈r.out,t.parts.length<1000000000000)∧∀ f∈d.finals,∀ t∈f.out,t.parts.length<1000000000000
theorem zex {d:Desc} (h:Ry d=true):(1≤d.states∧d.states≤1024)∧d.rules.length≤4096∧d.finals.length≤4096∧0≤d.start∧d.start<d.states:=by
 simp only[Ry,Il,Bool.and_eq_true,decide_eq_true_eq] at h;omega
theorem Xh {d:Desc} {r:Rule} (h:Ew d r=true):(0≤r.from_∧r.from_<d.states)∧0≤r.to_∧r.to_<d.states:=by
 simp only[Ew,Il,Bool.and_eq_true,decide_eq_true_eq] at h;omega
theorem zaj (d:Desc) (hf:Gh d):PC Tryz.prog 82 [Bp d] (.tup [.int .i64 (D8 d).1,.int .i64 (D8 d).2]):=by
 have hH:=zeq d;have hPr:=Az d.rules;have hPf:=Av d.finals;refine A9 Y7 ?_;unfold N3;cases hh:Ry d with
 | false =>
   rw[hh] at hH;rw[D8,if_pos hh];(with_reducible repeat' (first|(simp(disch:=omega)only[push_cast,↓zz,seval])|refine And.intro ?_ ?_|(first|refine Ab ?_ ?_|refine Aa ?_ ?_)<;>intro hc<;>(try simp only[push_cast] at hc)|refine eK hH ?_|refine eQ hH ?_|refine eG hH ?_|((first|refine cK hH ?_|refine cQ hH ?_|refine cG hH ?_);(simp(disch:=omega)only[push_cast,↓zz,seval]);(fail_if_success change False))|omega|intro _))
 | true =>
 rw[hh] at hH;obtain⟨b1,b2,b3,b4⟩:=zex hh
 have hW:D8 d=match E8 (Ew d) d.rules 0 with
   | some i=>(2,(i:Int))
   | none=>match E8 (Df d) d.finals 0 with
     | some i=>(3,(i:Int))
     | none=>if (@decide (cycP d.rules d.states.toNat) (Classical.propDecidable _))=true then (4,0) else (0,0):=by
   rw[D8,if_neg (by simp[hh])];split
   · rfl
   · split
     · rfl
     · by_cases hc:cycP d.rules d.states.toNat
       · rw[if_pos hc,if_pos (@decide_eq_true _ (Classical.propDecidable _) hc)]
       · rw[if_neg hc,if_neg (by rw[@decide_eq_false _ (Classical.propDecidable _) hc];simp)]
 (with_reducible repeat' (first|(simp(disch:=omega)only[push_cast,↓zz,seval])|refine And.intro ?_ ?_|(first|refine Ab ?_ ?_|refine Aa ?_ ?_)<;>intro hc<;>(try simp only[push_cast] at hc)|refine eK hH ?_|refine eQ hH ?_|refine eG hH ?_|((first|refine cK hH ?_|refine cQ hH ?_|refine cG hH ?_);(simp(disch:=omega)only[push_cast,↓zz,seval]);(fail_if_success change False))|omega|intro _))
 refine An (Ap (fun (k:Nat)=>k≤d.rules.length∧E8 (Ew d) d.rules 0=E8 (Ew d) (d.rules.drop k) k) (fun k=>d.rules.length-k)
   (fun k=>[(1,.ptr 0 1 0 0),(12,Dv d.rules),(13,.int .i64 d.rules.length),(14,.int .i64 k)]) (fun k=>[⟨6,1,true,[Bp d]⟩]) (fun env _=>[A5 1 (env 1)]) 0 ⟨by simp,rfl⟩ ?_ ?_)
 · (with_reducible repeat' (first|(simp(disch:=omega)only[push_cast,↓zz,seval,hPr,hPf])|refine And.intro ?_ ?_|(first|refine Ab ?_ ?_|refine Aa ?_ ?_)<;>intro hc<;>(try simp only[push_cast] at hc)|omega|intro _))
 rintro k ⟨k1,k2⟩;rcases Nat.lt_or_ge k d.rules.length with hk|hk
 · have hr:=zer d (nth d.rules k) (hf.1 _ (Ao hk))
   rw[Pn hk] at k2;cases hb:Ew d (nth d.rules k) with
   | false =>
     rw[hb] at hr k2;simp only[Bool.false_eq_true,if_false] at k2;rw[hW,k2];refine W_T ?_;(with_reducible repeat' (first|(simp(disch:=omega)only[push_cast,↓zz,seval,hPr,hPf])|refine And.intro ?_ ?_|(first|refine Ab ?_ ?_|refine Aa ?_ ?_)<;>intro hc<;>(try simp only[push_cast] at hc)|refine eK hr ?_|refine eQ hr ?_|refine eG hr ?_|((first|refine cK hr ?_|refine cQ hr ?_|refine cG hr ?_);(simp(disch:=omega)only[push_cast,↓zz,seval,hPr,hPf]);(fail_if_success change False))|omega|intro _))
   | true =>
     rw[hb] at hr k2;simp only[if_true] at k2;refine W_T ?_;(with_reducible repeat' (first|(simp(disch:=omega)only[push_cast,↓zz,seval,hPr,hPf])|refine And.intro ?_ ?_|(first|refine Ab ?_ ?_|refine Aa ?_ ?_)<;>intro hc<;>(try simp only[push_cast] at hc)|refine eK hr ?_|refine eQ hr ?_|refine eG hr ?_|((first|refine cK hr ?_|refine cQ hr ?_|refine cG hr ?_);(simp(disch:=omega)only[push_cast,↓zz,seval,hPr,hPf]);(fail_if_success change False))|omega|intro _))
     all_goals exact⟨k+1,by push_cast,⟨by omega,k2⟩,by omega⟩
 · rw[List.drop_of_length_le hk,E8] at k2
   have hall:=Hi k2;have hC:=zai d ⟨b1,b2,fun r hr=>Xh (hall r hr)⟩;rw[k2] at hW;simp only at hW;refine W_T ?_;(with_reducible repeat' (first|(simp(disch:=omega)only[push_cast,↓zz,seval,hPr,hPf])|refine And.intro ?_ ?_|(first|refine Ab ?_ ?_|refine Aa ?_ ?_)<;>intro hc<;>(try simp only[push_cast] at hc)|omega|intro _))
   refine An (Ap (fun (k:Nat)=>k≤d.finals.length∧E8 (Df d) d.finals 0=E8 (Df d) (d.finals.drop k) k) (fun k=>d.finals.length-k)
     (fun k=>[(1,.ptr 0 1 0 0),(26,Gv d.finals),(27,.int .i64 d.finals.length),(28,.int .i64 k)]) (fun k=>[⟨6,1,true,[Bp d]⟩]) (fun env _=>[A5 1 (env 1)]) 0 ⟨by simp,rfl⟩ ?_ ?_)
   · (with_reducible repeat' (first|(simp(disch:=omega)only[push_cast,↓zz,seval,hPr,hPf])|refine And.intro ?_ ?_|(first|refine Ab ?_ ?_|refine Aa ?_ ?_)<;>intro hc<;>(try simp only[push_cast] at hc)|omega|intro _))
   rintro j ⟨j1,j2⟩;rcases Nat.lt_or_ge j d.finals.length with hj|hj
   · generalize hfe:nth d.finals j=f at *
     have hfm:f∈d.finals:=by rw[←hfe];exact Ao hj
     have hfo:=hf.2 f hfm;have h1:=Ka d f.from_;have h2:=Rx d.in_ f.guards;have hP:=Ad f.guards;have hT:=Am f.out;rw[Pn hj,hfe] at j2;cases hg:Cy d.in_ f.guards with
     | false =>
       have hb:Df d f=false:=by rw[Df,hg];simp
       rw[hg] at h2;rw[hb] at j2;simp only[Bool.false_eq_true,if_false] at j2;rw[hW,j2];refine W_T ?_;(with_reducible repeat' (first|(simp(disch:=omega)only[push_cast,↓zz,seval,hPr,hPf,hfe,hP,hT])|refine And.intro ?_ ?_|(first|refine Ab ?_ ?_|refine Aa ?_ ?_)<;>intro hc<;>(try simp only[push_cast] at hc)|refine eK h1 ?_|refine eQ h1 ?_|refine eG h1 ?_|refine eK h2 ?_|refine eQ h2 ?_|refine eG h2 ?_|((first|refine cK h1 ?_|refine cQ h1 ?_|refine cG h1 ?_|refine cK h2 ?_|refine cQ h2 ?_|refine cG h2 ?_);(simp(disch:=omega)only[push_cast,↓zz,seval,hPr,hPf,hfe,hP,hT]);(fail_if_success change False))|omega|intro _))
     | true =>
       rw[hg] at h2;obtain⟨g1,g2⟩:=Fq hg;have h4:=Rz d f.out f.guards hfo (fun g hg=>by have:=g2 g hg;omega) (by omega);cases hb:Df d f with
       | false =>
         rw[hb] at j2;simp only[Bool.false_eq_true,if_false] at j2;rw[hW,j2];rw[Df,hg,Bool.true_and] at hb;refine W_T ?_;(with_reducible repeat' (first|(simp(disch:=omega)only[push_cast,↓zz,seval,hPr,hPf,hfe,hP,hT])|refine And.intro ?_ ?_|(first|refine Ab ?_ ?_|refine Aa ?_ ?_)<;>intro hc<;>(try simp only[push_cast] at hc)|refine eK h1 ?_|refine eQ h1 ?_|refine eG h1 ?_|refine eK h2 ?_|refine eQ h2 ?_|refine eG h2 ?_|refine eK h4 ?_|refine eQ h4 ?_|refine eG h4 ?_|((first|refine cK h1 ?_|refine cQ h1 ?_|refine cG h1 ?_|refine cK h2 ?_|refine cQ h2 ?_|refine cG h2 ?_|refine cK h4 ?_|refine cQ h4 ?_|refine cG h4 ?_);(simp(disch:=omega)only[push_cast,↓zz,seval,hPr,hPf,hfe,hP,hT]);(fail_if_success change False))|omega|intro _))
         all_goals first
           | (exfalso;simp_all;done)
           | trace_state
       | true =>
         rw[hb] at j2;simp only[if_true] at j2;rw[Df,hg,Bool.true_and,Bool.and_eq_true] at hb;rw[hb.1] at h1;rw[hb.2] at h4;refine W_T ?_;(with_reducible repeat' (first|(simp(disch:=omega)only[push_cast,↓zz,seval,hPr,hPf,hfe,hP,hT])|refine And.intro ?_ ?_|(first|refine Ab ?_ ?_|refine Aa ?_ ?_)<;>intro hc<;>(try simp only[push_cast] at hc)|refine eK h1 ?_|refine eQ h1 ?_|refine eG h1 ?_|refine eK h2 ?_|refine eQ h2 ?_|refine eG h2 ?_|refine eK h4 ?_|refine eQ h4 ?_|refine eG h4 ?_|((first|refine cK h1 ?_|refine cQ h1 ?_|refine cG h1 ?_|refine cK h2 ?_|refine cQ h2 ?_|refine cG h2 ?_|refine cK h4 ?_|refine cQ h4 ?_|refine cG h4 ?_);(simp(disch:=omega)only[push_cast,↓zz,seval,hPr,hPf,hfe,hP,hT]);(fail_if_success change False))|omega|intro _))
         all_goals exact⟨j+1,by push_cast,⟨by omega,j2⟩,by omega⟩
   · rw[List.drop_of_length_le hj,E8] at j2
     rw[j2] at hW;simp only at hW;generalize @decide (cycP d.rules d.states.toNat) (Classical.propDecidable _)=c at *;refine W_T ?_;rw[hW];cases c
     · (with_reducible repeat' (first|(simp(disch:=omega)only[push_cast,↓zz,seval,hPr,hPf])|refine And.intro ?_ ?_|(first|refine Ab ?_ ?_|refine Aa ?_ ?_)<;>intro hc<;>(try simp only[push_cast] at hc)|refine eK hC ?_|refine eQ hC ?_|refine eG hC ?_|((first|refine cK hC ?_|refine cQ hC ?_|refine cG hC ?_);(simp(disch:=omega)only[push_cast,↓zz,seval,hPr,hPf]);(fail_if_success change False))|omega|intro _))
     · (with_reducible repeat' (first|(simp(disch:=omega)only[push_cast,↓zz,seval,hPr,hPf])|refine And.intro ?_ ?_|(first|refine Ab ?_ ?_|refine Aa ?_ ?_)<;>intro hc<;>(try simp only[push_cast] at hc)|refine eK hC ?_|refine eQ hC ?_|refine eG hC ?_|((first|refine cK hC ?_|refine cQ hC ?_|refine cG hC ?_);(simp(disch:=omega)only[push_cast,↓zz,seval,hPr,hPf]);(fail_if_success change False))|omega|intro _))
       all_goals trace_state
noncomputable def Dl (d:Desc):Int:=if (D8 d).1=0 then 0 else 2
theorem Ut (d:Desc) (hf:Gh d):PC Tryz.prog 39 [Bp d] (.int .i64 (Dl d)):=by
 have hW:=zaj d hf;refine A9 Y4 ?_;unfold N0 Dl;generalize D8 d=w at *;by_cases h:w.1=0
 · rw[if_pos h]
   (with_reducible repeat' (first|(simp(disch:=omega)only[push_cast,↓zz,seval,h])|refine And.intro ?_ ?_|(first|refine Ab ?_ ?_|refine Aa ?_ ?_)<;>intro hc<;>(try simp only[push_cast] at hc)|refine eK hW ?_|refine eQ hW ?_|refine eG hW ?_|((first|refine cK hW ?_|refine cQ hW ?_|refine cG hW ?_);(simp(disch:=omega)only[push_cast,↓zz,seval,h]);(fail_if_success change False))|omega|intro _))
 · rw[if_neg h]
   (with_reducible repeat' (first|(simp(disch:=omega)only[push_cast,↓zz,seval,h])|refine And.intro ?_ ?_|(first|refine Ab ?_ ?_|refine Aa ?_ ?_)<;>intro hc<;>(try simp only[push_cast] at hc)|refine eK hW ?_|refine eQ hW ?_|refine eG hW ?_|((first|refine cK hW ?_|refine cQ hW ?_|refine cG hW ?_);(simp(disch:=omega)only[push_cast,↓zz,seval,h]);(fail_if_success change False))|omega|intro _))
   all_goals trace_state
theorem fold_at {α β:Type} [Inhabited α] {f:β→α→β} {l:List α} {k:Nat} {s:β} (h:k<l.length):(l.drop k).foldl f s=(l.drop (k+1)).foldl f (f s (nth l k)):=by rw[drop_at h,List.foldl_cons]
def freeB (d:Desc):Bool:=d.rules.all fun r=>!Cf r
def widF (n:Int) (r:Rule):Int:=max n r.guards.length
def ztz (d:Desc):Int:=d.rules.foldl widF 0
def lenR (l:List Rule):Prop:=∀ r∈l,r.guards.length≤9223372036854775807∧r.out.length≤9223372036854775807
def aheF (n:Int) (r:Rule):Int:=max n (r.guards.length-max r.eat 0)
def zu0 (d:Desc):Int:=d.rules.foldl aheF 0
def lonF (n:Int) (r:Rule):Int:=max n r.out.length
def lonG (n:Int) (f:Cw):Int:=max n f.out.length
def S7 (d:Desc):Int:=d.finals.foldl lonG (d.rules.foldl lonF 0)
theorem z0j (d:Desc) (hl:d.rules.length≤9223372036854775807) (hlf:d.finals.length≤9223372036854775807) (hr:lenR d.rules):PC Tryz.prog 53 [Bp d] (.int .i64 (S7 d)):=by
 have hPr:=Az d.rules;have hPf:=Av d.finals;refine A9 Ss ?_;unfold Kp;(with_reducible repeat' (first|(simp(disch:=omega)only[push_cast,↓zz,seval])|refine And.intro ?_ ?_|(first|refine Ab ?_ ?_|refine Aa ?_ ?_)<;>intro hc<;>(try simp only[push_cast] at hc)|omega|intro _))
 refine An (Ap (fun (s:Nat × Int)=>s.1≤d.rules.length∧S7 d=d.finals.foldl lonG ((d.rules.drop s.1).foldl lonF s.2)) (fun s=>d.rules.length-s.1)
   (fun s=>[(1,.ptr 0 1 0 0),(3,.int .i64 s.2),(9,Dv d.rules),(10,.int .i64 d.rules.length),(11,.int .i64 s.1)]) (fun k=>[⟨6,1,true,[Bp d]⟩]) (fun env _=>[A5 1 (env 1)]) (0,0) ⟨by simp,rfl⟩ ?_ ?_)
 · (with_reducible repeat' (first|(simp(disch:=omega)only[push_cast,↓zz,seval,hPr,hPf])|refine And.intro ?_ ?_|(first|refine Ab ?_ ?_|refine Aa ?_ ?_)<;>intro hc<;>(try simp only[push_cast] at hc)|omega|intro _))
 rintro⟨k,n⟩ ⟨k1,k2⟩;simp only at k1 k2;rcases Nat.lt_or_ge k d.rules.length with hk|hk
 · rw[fold_at hk] at k2
   generalize hre:nth d.rules k=r at *;have hP:=Ad r.guards;have hT:=Am r.out;refine W_T ?_;(with_reducible repeat' (first|(simp(disch:=omega)only[push_cast,↓zz,seval,hPr,hPf,hre,hP,hT])|refine And.intro ?_ ?_|(first|refine Ab ?_ ?_|refine Aa ?_ ?_)<;>intro hc<;>(try simp only[push_cast] at hc)|omega|intro _))
   all_goals exact⟨(k+1,max n r.out.length),⟨rfl,by push_cast⟩,⟨by simp only;omega,k2⟩,by simp only;omega⟩
 · rw[List.drop_of_length_le hk,List.foldl_nil] at k2
   refine W_T ?_;(with_reducible repeat' (first|(simp(disch:=omega)only[push_cast,↓zz,seval,hPr,hPf])|refine And.intro ?_ ?_|(first|refine Ab ?_ ?_|refine Aa ?_ ?_)<;>intro hc<;>(try simp only[push_cast] at hc)|omega|intro _))
   refine An (Ap (fun (s:Nat × Int)=>s.1≤d.finals.length∧S7 d=(d.finals.drop s.1).foldl lonG s.2) (fun s=>d.finals.length-s.1)
     (fun s=>[(3,.int .i64 s.2),(22,Gv d.finals),(23,.int .i64 d.finals.length),(24,.int .i64 s.1)]) (fun k=>[]) (fun _ _=>[]) (0,n) ⟨by simp,k2⟩ ?_ ?_)
   · (with_reducible repeat' (first|(simp(disch:=omega)only[push_cast,↓zz,seval,hPr,hPf])|refine And.intro ?_ ?_|(first|refine Ab ?_ ?_|refine Aa ?_ ?_)<;>intro hc<;>(try simp only[push_cast] at hc)|omega|intro _))
   rintro⟨j,m⟩ ⟨j1,j2⟩;simp only at j1 j2;rcases Nat.lt_or_ge j d.finals.length with hj|hj
   · rw[fold_at hj] at j2
     generalize hfe:nth d.finals j=f at *;have hP:=Ad f.guards;have hT:=Am f.out;refine W_T ?_;(with_reducible repeat' (first|(simp(disch:=omega)only[push_cast,↓zz,seval,hPf,hfe,hP,hT])|refine And.intro ?_ ?_|(first|refine Ab ?_ ?_|refine Aa ?_ ?_)<;>intro hc<;>(try simp only[push_cast] at hc)|omega|intro _))
     all_goals exact⟨(j+1,max m f.out.length),⟨rfl,by push_cast⟩,⟨by simp only;omega,j2⟩,by simp only;omega⟩
   · rw[List.drop_of_length_le hj,List.foldl_nil] at j2
     refine W_T ?_;(with_reducible repeat' (first|(simp(disch:=omega)only[push_cast,↓zz,seval,hPf,j2])|refine And.intro ?_ ?_|(first|refine Ab ?_ ?_|refine Aa ?_ ?_)<;>intro hc<;>(try simp only[push_cast] at hc)|omega|intro _))
     all_goals trace_state
theorem z3r (l:List Span) (hl:l.length≤1000000000000):PC Tryz.prog 95 [Ag l] (Ag l):=by
 by_cases h0:l=[]
 · subst h0
   refine zl0 ?_ ?_
   · refine A9 Ch ?_
     unfold Bz;(with_reducible repeat' (first|(simp(disch:=omega)only[push_cast,↓zz,seval])|refine And.intro ?_ ?_|(first|refine Ab ?_ ?_|refine Aa ?_ ?_)<;>intro hc<;>(try simp only[push_cast] at hc)|omega|intro _))
   · refine A9 Ch ?_
     unfold Bz;(with_reducible repeat' (first|(simp(disch:=omega)only[push_cast,↓zz,seval])|refine And.intro ?_ ?_|(first|refine Ab ?_ ?_|refine Aa ?_ ?_)<;>intro hc<;>(try simp only[push_cast] at hc)|omega|intro _))
 refine A9 Ch ?_;unfold Bz;(with_reducible repeat' (first|(simp(disch:=omega)only[push_cast,↓zz,seval])|refine And.intro ?_ ?_|(first|refine Ab ?_ ?_|refine Aa ?_ ?_)<;>intro hc<;>(try simp only[push_cast] at hc)|omega|intro _))
 all_goals trace_state
theorem zey {lo hi D q:Int} (hD:0<D) (h:lo≤hi):(∃ x,lo≤x∧x≤hi∧x / D=q)↔lo / D≤q∧q≤hi / D:=by
 constructor
 · rintro⟨x,h1,h2,rfl⟩
   exact⟨Int.ediv_le_ediv hD h1,Int.ediv_le_ediv hD h2⟩
 · rintro⟨h1,h2⟩
   rcases Int.lt_or_eq_of_le h1 with h3|h3
   · refine⟨q * D,?_,?_,Int.mul_ediv_cancel _ (by omega)⟩
     · have:=(Int.ediv_lt_iff_lt_mul hD).1 h3;omega
     · exact (Int.le_ediv_iff_mul_le hD).1 h2
   · exact⟨lo,Int.le_refl _,h,h3⟩
theorem Xi {x y M:Int} (hM:0<M) (h1:x≤y) (h2:y-x<M):y / M=x / M∨y / M=x / M+1:=by
 have a:=Int.ediv_le_ediv hM h1;have c:y / M≤(x+M * 1) / M:=Int.ediv_le_ediv hM (by omega);rw[Int.add_mul_ediv_left _ _ (by omega)] at c;omega
theorem Po {w M k:Int} (h:0≤w∧w<M):(M * k+w) % M=w:=by
 rw[Int.add_comm,Int.add_mul_emod_self_left,Int.emod_eq_of_lt h.1 h.2]
theorem zez {a b M w:Int} (hM:0<M) (hab:a≤b) (hs:b-a<M-1) :
   (∃ q,a≤q∧q≤b∧q % M=w)↔if a % M≤b % M then a % M≤w∧w≤b % M else (0≤w∧w≤b % M)∨(a % M≤w∧w≤M-1):=by
 have ea:=Int.mul_ediv_add_emod a M;have eb:=Int.mul_ediv_add_emod b M;have a1:=Int.emod_nonneg a (by omega:M≠0);have a2:=Int.emod_lt_of_pos a hM;have b1:=Int.emod_nonneg b (by omega:M≠0);have b2:=Int.emod_lt_of_pos b hM;constructor
 · rintro⟨q,h1,h2,rfl⟩
   have eq:=Int.mul_ediv_add_emod q M;have q1:=Int.emod_nonneg q (by omega:M≠0);have q2:=Int.emod_lt_of_pos q hM;have k1:=Xi hM hab (by omega);have k2:=Xi hM h1 (by omega);have e1:M * (a / M+1)=M * (a / M)+M:=by rw[Int.mul_add,Int.mul_one]
   rcases k1 with k1|k1<;>rcases k2 with k2|k2<;>rw[k1] at eb<;>rw[k2] at eq<;>(try rw[e1] at eb)<;>(try rw[e1] at eq)<;>split<;>omega
 · intro h
   have k1:=Xi hM hab (by omega);have e1:M * (a / M+1)=M * (a / M)+M:=by rw[Int.mul_add,Int.mul_one]
   rcases k1 with k1|k1
   · rw[k1] at eb
     rw[if_pos (by omega)] at h;exact⟨M * (a / M)+w,by omega,by omega,Po (by omega)⟩
   · rw[k1,e1] at eb
     rw[if_neg (by omega)] at h;rcases h with h|h
     · exact⟨M * (a / M+1)+w,by omega,by omega,Po (by omega)⟩
     · exact⟨M * (a / M)+w,by omega,by omega,Po (by omega)⟩
theorem zk3 {a b M w:Int} (hM:0<M) (hs:M-1≤b-a):(∃ q,a≤q∧q≤b∧q % M=w)↔0≤w∧w≤M-1:=by
 constructor
 · rintro⟨q,_,_,rfl⟩
   have q1:=Int.emod_nonneg q (by omega:M≠0);have q2:=Int.emod_lt_of_pos q hM;omega
 · intro h
   have e:=Int.mul_ediv_add_emod (w-a) M;have q1:=Int.emod_nonneg (w-a) (by omega:M≠0);have q2:=Int.emod_lt_of_pos (w-a) hM;refine⟨a+(w-a) % M,by omega,by omega,?_⟩;have:a+(w-a) % M=M * (-((w-a) / M))+w:=by rw[Int.mul_neg];omega
   rw[this,Po (by omega)]
theorem z72 {d t:Nat} {s:Span} {w:Int} (hs:s.lo≤s.hi) (hn:¬(2 ^ t-1:Int)≤s.hi / 2 ^ d-s.lo / 2 ^ d):memL (imgS d t s) w↔∃ x,(s.lo≤x∧x≤s.hi)∧x / 2 ^ d % 2 ^ t=w:=by
 have hD:(0:Int)<2 ^ d:=Int.pow_pos (by decide);have hT:(0:Int)<2 ^ t:=Int.pow_pos (by decide);have hab:=Int.ediv_le_ediv hD hs
 have key:(∃ x,(s.lo≤x∧x≤s.hi)∧x / 2 ^ d % 2 ^ t=w)↔∃ q,s.lo / 2 ^ d≤q∧q≤s.hi / 2 ^ d∧q % 2 ^ t=w:=by
   constructor
   · rintro⟨x,⟨h1,h2⟩,h3⟩
     exact⟨x / 2 ^ d,Int.ediv_le_ediv hD h1,Int.ediv_le_ediv hD h2,h3⟩
   · rintro⟨q,h1,h2,h3⟩
     obtain⟨x,k1,k2,k3⟩:=(zey hD hs).2 ⟨h1,h2⟩;exact⟨x,⟨k1,k2⟩,by rw[k3];exact h3⟩
 rw[key,zez hT hab (by omega),imgS];split
 · simp[Ax,Bh]
 · simp[Ax,Bh]
theorem z73 {d t:Nat} {w:Int}:∀ (l out:List Span),(∀ s∈l,s.lo≤s.hi)→(∀ v,memL out v→0≤v∧v≤2 ^ t-1)→(memL (imgF d t l out) w↔memL out w∨∃ x,memL l x∧x / 2 ^ d % 2 ^ t=w)
 | [],out,_,_=>by simp[imgF,Bh]
 | s::l,out,h,ho=>by
   have hD:(0:Int)<2 ^ d:=Int.pow_pos (by decide);have hT:(0:Int)<2 ^ t:=Int.pow_pos (by decide);have hs:=h s (by simp);rw[imgF];split
   · rename_i hb
     have hf:=zk3 (w:=w) hT hb;constructor
     · intro hw
       have hw':0≤w∧w≤2 ^ t-1:=by simpa [allS,Ax,Bh] using hw
       obtain⟨q,h1,h2,h3⟩:=hf.2 hw';obtain⟨x,k1,k2,k3⟩:=(zey hD hs).2 ⟨h1,h2⟩;exact .inr ⟨x,Ax.2 (.inl ⟨k1,k2⟩),by rw[k3];exact h3⟩
     · intro hw
       have:0≤w∧w≤2 ^ t-1:=by
         rcases hw with hw|⟨x,_,rfl⟩
         · exact ho w hw
         · have q1:=Int.emod_nonneg (x / 2 ^ d) (by omega:(2:Int) ^ t≠0)
           have q2:=Int.emod_lt_of_pos (x / 2 ^ d) hT;omega
       simpa [allS,Ax,Bh] using this
   · rename_i hb
     rw[z73 l _ (fun s hs=>h s (by simp[hs])) (fun v hv=>?_),Dy,z72 hs hb]
     · constructor
       · rintro ((h1|⟨x,h1,h2⟩)|⟨x,h1,h2⟩)
         · exact .inl h1
         · exact .inr ⟨x,Ax.2 (.inl h1),h2⟩
         · exact .inr ⟨x,Ax.2 (.inr h1),h2⟩
       · rintro (h1|⟨x,h1,h2⟩)
         · exact .inl (.inl h1)
         · rcases Ax.1 h1 with h1|h1
           · exact .inl (.inr ⟨x,h1,h2⟩)
           · exact .inr ⟨x,h1,h2⟩
     · rcases Dy.1 hv with hv|hv
       · exact ho v hv
       · obtain⟨x,_,rfl⟩:=(z72 hs hb).1 hv
         have q1:=Int.emod_nonneg (x / 2 ^ d) (by omega:(2:Int) ^ t≠0);have q2:=Int.emod_lt_of_pos (x / 2 ^ d) hT;omega
theorem mem_map {α:Type} {f:α→Span} {l:List α} {v:Int}:memL (l.map f) v↔∃ a∈l,(f a).lo≤v∧v≤(f a).hi:=by
 simp only[memL,List.mem_map];exact⟨fun⟨_,⟨a,h,rfl⟩,h2⟩=>⟨a,h,h2⟩,fun⟨a,h,h2⟩=>⟨_,⟨a,h,rfl⟩,h2⟩⟩
theorem z74 {p:Part} (s:List Span) (hb:C6 p=true):Plain (imgL p s)∧∀ v,memL (imgL p s) v↔∃ x,memL s x∧(0≤x∧x≤2097151)∧valP p x=v:=by
 have hbi:=Dt.1 hb;have ht:=Hd p.take.toNat (by omega);have hT:(0:Int)<2 ^ p.take.toNat:=Int.pow_pos (by decide);obtain⟨m1,m2,m3⟩:=z6t s
 have hF:∀ w,memL (imgF p.drop.toNat p.take.toNat (Ev (Ar s) (Ar topS)) []) w↔∃ x,(memL s x∧0≤x∧x≤2097151)∧x / 2 ^ p.drop.toNat % 2 ^ p.take.toNat=w:=fun w=>by
   rw[z73 _ _ (fun t ht=>(m2 t ht).2.1) (fun v hv=>absurd hv (Bh v))];simp only[Bh,false_or,m3]
 have hr:∀ w,memL (imgF p.drop.toNat p.take.toNat (Ev (Ar s) (Ar topS)) []) w→0≤w∧w≤2 ^ p.take.toNat-1:=fun w hw=>by
   obtain⟨x,_,rfl⟩:=(hF w).1 hw;have q1:=Int.emod_nonneg (x / 2 ^ p.drop.toNat) (by omega:(2:Int) ^ p.take.toNat≠0);have q2:=Int.emod_lt_of_pos (x / 2 ^ p.drop.toNat) hT;omega
 unfold imgL;rw[if_neg (by simp[hb])];split
 · rename_i hu
   refine⟨(Aq _).1,fun v=>?_⟩;rw[(Aq _).2 v,hF];have e:∀ x,valP p x=x / 2 ^ p.drop.toNat % 2 ^ p.take.toNat:=fun x=>by simp[valP,hu]
   constructor
   · rintro⟨⟨x,⟨h1,h2⟩,h3⟩,_⟩
     exact⟨x,h1,h2,by rw[e];exact h3⟩
   · rintro⟨x,h1,h2,h3⟩
     rw[e] at h3;have:=hr v ((hF v).2 ⟨x,⟨h1,h2⟩,h3⟩);exact⟨⟨x,⟨h1,h2⟩,h3⟩,by omega⟩
 · rename_i hu
   refine⟨(Aq _).1,fun v=>?_⟩;rw[(Aq _).2 v,mem_map];constructor
   · rintro⟨⟨n,hn,h1,h2⟩,_⟩
     simp only[oneS] at h1 h2;have hn':=H0.1 hn;rw[(Aq _).2,(Aq _).2] at hn';obtain⟨x,⟨k1,k2⟩,k3⟩:=(hF n).1 hn'.1.1;exact⟨x,k1,k2,by rw[valP,k3];omega⟩
   · rintro⟨x,h1,h2,h3⟩
     have hv:=Ez hb h2;have hm:=(hF (x / 2 ^ p.drop.toNat % 2 ^ p.take.toNat)).2 ⟨x,⟨h1,h2⟩,rfl⟩;have:=hr _ hm;refine⟨⟨x / 2 ^ p.drop.toNat % 2 ^ p.take.toNat,H0.2 ?_,?_⟩,by omega⟩
     · rw[(Aq _).2,(Aq _).2]
       exact⟨⟨hm,by omega⟩,by omega⟩
     · rw[valP] at h3
       simp only[oneS];omega
def Full (l:List Span):Prop:=∀ s∈l,s.lo≤s.hi
theorem zf0 {a b:List Span} (ha:Full a) (hb:Full b):Plain (z0d a b)∧∀ v,memL (z0d a b) v↔(∃ x y,memL a x∧memL b y∧x+y=v)∧-1073741824≤v∧v≤1073741824:=by
 refine⟨(Aq _).1,fun v=>?_⟩;rw[z0d,(Aq _).2 v,z3i,z6u];refine and_congr_left fun _=>?_;constructor
 · rintro⟨s,hs,h⟩
   obtain⟨r,hr,h1,h2⟩:=mem_map.1 h;simp only[sumS] at h1 h2;have k1:=ha s hs;have k2:=hb r hr;refine⟨max s.lo (v-r.hi),v-max s.lo (v-r.hi),⟨s,hs,by omega,by omega⟩,⟨r,hr,by omega,by omega⟩,by omega⟩
 · rintro⟨x,y,⟨s,hs,h1,h2⟩,⟨r,hr,h3,h4⟩,rfl⟩
   exact⟨s,hs,mem_map.2 ⟨r,hr,by simp only[sumS];omega,by simp only[sumS];omega⟩⟩
theorem zf1 {out:List Span} {n:Int} (h:Full out):Full (addS out ⟨n,n⟩)∧∀ v,memL (addS out ⟨n,n⟩) v↔memL out v∨v=n:=by
 rcases Dw out with rfl|⟨m,y,rfl⟩
 · refine⟨fun s hs=>?_,fun v=>?_⟩
   · simp only[F0,List.mem_singleton] at hs;subst hs;simp
   · rw[F0,Ax];simp only[Bh,or_false,false_or];omega
 · have hy:=h y (by simp)
   rw[Hg];simp only;split
   · rename_i he
     refine⟨fun s hs=>?_,fun v=>?_⟩
     · rcases List.mem_append.1 hs with hs|hs
       · exact h s (by simp[hs])
       · simp only[List.mem_singleton] at hs;subst hs;simp only;omega
     · rw[Dy,Dy,Ax,Ax]
       simp only[Bh,or_false];constructor
       · rintro (h1|h1)
         · exact .inl (.inl h1)
         · by_cases hv:v=n
           · exact .inr hv
           · exact .inl (.inr (by omega))
       · rintro ((h1|h1)|h1)
         · exact .inl h1
         · exact .inr (by omega)
         · exact .inr (by omega)
   · refine⟨fun s hs=>?_,fun v=>?_⟩
     · rcases List.mem_append.1 hs with hs|hs
       · exact h s hs
       · simp only[List.mem_singleton] at hs;subst hs;simp
     · rw[Dy,Ax]
       simp only[Bh,or_false];have:(n≤v∧v≤n)↔v=n:=by omega
       rw[this]
theorem z75 (l:List Part) {v:Int}:∀ (m:List Int) (out:List Span),Full out→(memL (m.foldl (togF l) out) v↔memL out v∨∃ x∈m,totV l x=v)
 | [],out,_=>by simp
 | x::m,out,h=>by
   obtain⟨h1,h2⟩:=zf1 (n:=totV l x) h;rw[List.foldl_cons,togF,z75 l m _ h1,h2];simp only[List.mem_cons,exists_eq_or_imp];constructor
   · rintro ((h|h)|h)
     · exact .inl h
     · exact .inr (.inl h.symm)
     · exact .inr (.inr h)
   · rintro (h|h|h)
     · exact .inl (.inl h)
     · exact .inl (.inr h.symm)
     · exact .inr h
theorem zk4 {l:List Part} {s:List Span} (hl:l.length≤4) (hb:∀ p∈l,C6 p=true) (hs:Syms s):Plain (togL l s)∧∀ v,memL (togL l s) v↔∃ x,memL s x∧totV l x=v:=by
 unfold togL;split
 · rename_i h1
   obtain⟨p,rfl⟩:=List.length_eq_one_iff.1 h1;obtain⟨i1,i2⟩:=z74 s (hb p (by simp));refine⟨i1,fun v=>?_⟩;have e:nth [p] 0=p:=rfl;rw[e,i2];have e2:∀ x,totV [p] x=valP p x:=fun x=>by simp[totV]
   constructor
   · rintro⟨x,h1,_,h3⟩;exact⟨x,h1,by rw[e2];exact h3⟩
   · rintro⟨x,h1,h3⟩
     have:=hs.mem h1;exact⟨x,h1,by omega,by rw[←e2];exact h3⟩
 · refine⟨(Aq _).1,fun v=>?_⟩
   rw[(Aq _).2 v,z75 l _ _ (fun s hs=>by cases hs),z0g hs];simp only[Bh,false_or,H0];constructor
   · rintro⟨h,_⟩;exact h
   · rintro⟨x,h1,rfl⟩
     have:=hs.mem h1;have:=Jc (x:=x) (by omega) hb;exact⟨⟨x,h1,rfl⟩,by omega⟩
def Win (sets:List (List Span)) (w:List Int):Prop:=w.length=sets.length∧∀ i,i<sets.length→memL (nth sets i) (nth w i)
def Nq (l:List Part) (pl:List Int) (w:List Int):Int:=(pl.map fun a=>totV (atL l a) (nth w a.toNat)).sum
def totW (w:List Int) (l:List Part):Int:=(l.map fun p=>valP p (nth w p.at_.toNat)).sum
theorem Nr {w:List Int} {i j:Nat} {x:Int} (h:i<w.length):nth (w.set i x) j=if j=i then x else nth w j:=by
 simp only[nth,List.getD_eq_getElem?_getD,List.getElem?_set];split
 · subst_vars;simp[h]
 · rename_i hne;rw[if_neg (fun e=>hne e.symm)]
theorem H7 {α:Type} {f g:α→Int}:∀ {l:List α},(∀ a∈l,f a=g a)→(l.map f).sum=(l.map g).sum
 | [],_=>rfl
 | a::l,h=>by simp[h a (by simp),H7 (l:=l) fun b hb=>h b (by simp[hb])]
theorem R2 {α:Type} {f g:α→Int}:∀ {l:List α},(l.map fun a=>f a+g a).sum=(l.map f).sum+(l.map g).sum
 | []=>rfl
 | a::l=>by
   have:=R2 (f:=f) (g:=g) (l:=l);simp only[List.map_cons,List.sum_cons,this];omega
theorem Je {α:Type} {f:α→Int}:∀ {l:List α},(∀ a∈l,f a=0)→(l.map f).sum=0
 | [],_=>rfl
 | a::l,h=>by simp[h a (by simp),Je (l:=l) fun b hb=>h b (by simp[hb])]
theorem R3 {c:Int} {g:Int→Int}:∀ {l:List Int},l.Nodup→c∈l→(l.map fun a=>if c=a then g a else 0).sum=g c
 | [],_,h=>by cases h
 | a::l,hn,h=>by
   obtain⟨h1,h2⟩:=List.nodup_cons.1 hn;by_cases e:c=a
   · subst e
     have:(l.map fun a=>if c=a then g a else 0).sum=0:=Je fun b hb=>if_neg fun (e2:c=b)=>h1 (by rw[e2];exact hb);simp[this]
   · have hm:c∈l:=by simpa [e] using h
     simp[e,R3 h2 hm]
theorem Kc (w:List Int):∀ (l:List Part) (pl:List Int),pl.Nodup→(∀ p∈l,p.at_∈pl)→Nq l pl w=totW w l
 | [],pl,_,_=>Je fun a _=>rfl
 | p::l,pl,hn,h=>by
   have ih:=Kc w l pl hn fun q hq=>h q (by simp[hq])
   have e:∀ a∈pl,totV (atL (p::l) a) (nth w a.toNat)=(if p.at_=a then valP p (nth w a.toNat) else 0)+totV (atL l a) (nth w a.toNat):=fun a _=>by
     simp only[atL,List.filter_cons,decide_eq_true_eq];split
     · simp[totV]
     · simp[totV]
   rw[Nq,H7 e,R2,R3 (g:=fun a=>valP p (nth w a.toNat)) hn (h p (by simp))];rw[Nq] at ih;rw[ih];simp[totW]
theorem R4:∀ (l:List Part) (pl:List Int),pl.Nodup→(l.foldl B2 pl).Nodup∧(∀ a,a∈l.foldl B2 pl↔a∈pl∨∃ p∈l,p.at_=a)∧(l.foldl B2 pl).length≤pl.length+l.length
 | [],pl,h=>⟨h,fun a=>by simp,by simp⟩
 | p::l,pl,h=>by
   have h1:(B2 pl p).Nodup∧(∀ a,a∈B2 pl p↔a∈pl∨p.at_=a)∧(B2 pl p).length≤pl.length+1:=by
     unfold B2;split
     · rename_i hm
       exact⟨h,fun a=>⟨.inl,fun hh=>hh.elim id fun e=>e ▸ hm⟩,by omega⟩
     · rename_i hm
       refine⟨List.nodup_append.2 ⟨h,by simp,fun a ha b hb=>?_⟩,fun a=>by simp[eq_comm],by simp⟩;simp only[List.mem_singleton] at hb;subst hb;exact fun e=>hm (e ▸ ha)
   obtain⟨k1,k2,k3⟩:=R4 l (B2 pl p) h1.1;refine⟨k1,fun a=>?_,by have:=h1.2.2;simp only[List.foldl_cons,List.length_cons];omega⟩;rw[List.foldl_cons,k2,h1.2.1];simp only[List.mem_cons,exists_eq_or_imp,or_assoc]
theorem Uu {l:List Span} (h:Plain l):Full l:=h.1
theorem zf2 {sets:List (List Span)} {w:List Int} {a:Nat} {x:Int} (hw:Win sets w) (ha:a<sets.length) (hx:memL (nth sets a) x):Win sets (w.set a x):=by
 refine⟨by simp[hw.1],fun i hi=>?_⟩;rw[Nr (by rw[hw.1];exact ha)];split
 · subst_vars;exact hx
 · exact hw.2 i hi
theorem z0k {l:List Part} {sets:List (List Span)} (hS:Cm l sets) (hl:l.length≤4) (hne:∃ w,Win sets w):∀ (pl:List Int) (out:List Span),pl.Nodup→(∀ a∈pl,0≤a∧a<sets.length)→Full out→pl.length≤4 →
   (∀ v,memL out v→-1114111≤v∧v≤1114111+(4-(pl.length:Int)) * 264241152)→Full (pl.foldl (Bc l sets) out)∧∀ v,memL (pl.foldl (Bc l sets) out) v↔∃ o w,memL out o∧Win sets w∧o+Nq l pl w=v
 | [],out,_,_,hf,_,_=>⟨hf,fun v=>by
   obtain⟨w,hw⟩:=hne;simp only[List.foldl_nil,Nq,List.map_nil,List.sum_nil,Int.add_zero]
   exact⟨fun h=>⟨v,w,h,hw,rfl⟩,fun⟨o,_,h,_,e⟩=>e ▸ h⟩⟩
 | a::pl,out,hn,hp,hf,hlen,hb=>by
   obtain⟨n1,n2⟩:=List.nodup_cons.1 hn;have ha:=hp a (by simp);have hm:nth sets a.toNat∈sets:=Ao (by omega);have hsy:=hS.syms _ hm
   have hbits:∀ p∈atL l a,C6 p=true:=fun p hp=>by
     have:=hS.parts p ((List.mem_filter.1 hp).1);simp only[Dk,Bool.and_eq_true] at this;exact this.2
   have hla:(atL l a).length≤4:=Nat.le_trans (List.length_filter_le _ _) hl;obtain⟨t1,t2⟩:=zk4 hla hbits hsy;obtain⟨p1,p2⟩:=zf0 hf (Uu t1)
   have htot:∀ x,memL (nth sets a.toNat) x→0≤totV (atL l a) x∧totV (atL l a) x≤264241152:=fun x hx=>by
     have:=hsy.mem hx;have:=Jc (x:=x) (by omega) hbits;omega
   simp only[List.length_cons] at hlen hb
   have hv:∀ v,memL (Bc l sets out a) v↔∃ o x,memL out o∧memL (nth sets a.toNat) x∧o+totV (atL l a) x=v:=fun v=>by
     rw[Bc,p2];constructor
     · rintro⟨⟨o,y,h1,h2,h3⟩,_⟩
       obtain⟨x,k1,k2⟩:=(t2 y).1 h2;exact⟨o,x,h1,k1,by rw[k2];exact h3⟩
     · rintro⟨o,x,h1,h2,rfl⟩
       have:=hb o h1;have:=htot x h2
       push_cast at *
       exact⟨⟨o,_,h1,(t2 _).2 ⟨x,h2,rfl⟩,rfl⟩,by omega,by omega⟩
   obtain⟨i1,i2⟩:=z0k hS hl hne pl (Bc l sets out a) n2 (fun b hb=>hp b (by simp[hb])) (Uu p1) (by omega) (fun v h=>by
     obtain⟨o,x,h1,h2,rfl⟩:=(hv v).1 h;have:=hb o h1;have:=htot x h2
     push_cast at *
     omega)
   refine⟨i1,fun v=>?_⟩;rw[List.foldl_cons,i2];constructor
   · rintro⟨u,w,h1,hw,rfl⟩
     obtain⟨o,x,k1,k2,rfl⟩:=(hv u).1 h1;refine⟨o,w.set a.toNat x,k1,zf2 hw (by omega) k2,?_⟩
     have e1:Nq l pl (w.set a.toNat x)=Nq l pl w:=H7 fun b hb=>by
       have:=hp b (by simp[hb]);rw[Nr (by rw[hw.1];omega),if_neg];intro e;exact n1 ((show b=a by omega) ▸ hb)
     have e2:Nq l (a::pl) (w.set a.toNat x)=totV (atL l a) x+Nq l pl (w.set a.toNat x):=by
       simp only[Nq,List.map_cons,List.sum_cons];rw[Nr (by rw[hw.1];omega),if_pos rfl]
     rw[e2,e1];omega
   · rintro⟨o,w,h1,hw,rfl⟩
     have hx:=hw.2 a.toNat (by omega);refine⟨o+totV (atL l a) (nth w a.toNat),w,(hv _).2 ⟨o,_,h1,hx,rfl⟩,hw,?_⟩;simp only[Nq,List.map_cons,List.sum_cons];omega
theorem zk5 (x:Int):Full [⟨x,x⟩]:=fun s hs=>by simp only[List.mem_singleton] at hs;subst hs;simp
theorem z3s {x v:Int}:memL [⟨x,x⟩] v↔v=x:=by rw[Ax];simp only[Bh,or_false];omega
theorem zf3 {t:Term} {sets:List (List Span)} (hS:Cm t.parts sets) (hl:t.parts.length≤4) (hs:B3 t.sum=true) (hne:∃ w,Win sets w):Full (Bb t sets)∧∀ v,memL (Bb t sets) v↔∃ w,Win sets w∧t.sum+totW w t.parts=v:=by
 obtain⟨k1,k2,k3⟩:=R4 t.parts [] (by simp);have hsm:=Fh hs;simp only[List.length_nil] at k3
 have hat:∀ a,a∈B5 t.parts→0≤a∧a<sets.length:=fun a ha=>by
   obtain h|⟨p,hp,rfl⟩:=(k2 a).1 ha
   · cases h
   · exact Ai (hS.parts p hp)
 obtain⟨h1,h2⟩:=z0k hS hl hne (B5 t.parts) [⟨t.sum,t.sum⟩] k1 hat (zk5 _) (by rw[B5];omega) (fun v hv=>by
   rw[z3s] at hv;have:(B5 t.parts).length≤4:=by rw[B5];omega
   omega)
 refine⟨h1,fun v=>?_⟩;rw[Bb,h2];constructor
 · rintro⟨o,w,e,hw,rfl⟩
   rw[z3s] at e;exact⟨w,hw,by rw[e,B5,Kc w _ _ k1 fun p hp=>(k2 _).2 (.inr ⟨p,hp,rfl⟩)]⟩
 · rintro⟨w,hw,rfl⟩
   exact⟨_,w,z3s.2 rfl,hw,by rw[B5,Kc w _ _ k1 fun p hp=>(k2 _).2 (.inr ⟨p,hp,rfl⟩)]⟩
theorem z3t {w:List Int} {n:Int}:∀ {l:List Part},(∀ p∈l,Dk p n=true)→(∀ p∈l,0≤nth w p.at_.toNat∧nth w p.at_.toNat≤1114111)→totP w l=totW w l∧0≤totW w l∧totW w l≤l.length * 66060288
 | [],_,_=>by simp[totP,totW]
 | p::l,h,hx=>by
   obtain⟨i1,i2,i3⟩:=z3t (l:=l) (fun q hq=>h q (by simp[hq])) (fun q hq=>hx q (by simp[hq]));have hr:=h p (by simp);simp only[Dk,Bool.and_eq_true] at hr;have hxp:=hx p (by simp);have hv:=Ez hr.2 (x:=nth w p.at_.toNat) (by omega);have e1:val1 p (nth w p.at_.toNat)=valP p (nth w p.at_.toNat):=(Wq hr.2 (by omega)).2;have e2:totW w (p::l)=valP p (nth w p.at_.toNat)+totW w l:=by simp[totW]
   rw[totP,e1,e2,i1];refine⟨rfl,by omega,?_⟩
   push_cast [List.length_cons]
   omega
theorem Hj {t:Term} {sets:List (List Span)} {w:List Int} (hS:Cm t.parts sets) (hn:B4 t=true) (hw:Win sets w) :
   I7 t w=if 0≤t.sum+totW w t.parts∧t.sum+totW w t.parts≤1114111 then some (t.base+valP t.outer (t.sum+totW w t.parts)) else none:=by
 simp only[B4,Bool.and_eq_true,decide_eq_true_eq] at hn;obtain⟨⟨⟨hb,hs⟩,ho⟩,_,hl⟩:=hn;have hsm:=Fh hs;have hbm:=Fh hb;have hsym:∀ i,i<sets.length→0≤nth w i∧nth w i≤1114111:=fun i hi=>(hS.syms _ (Ao hi)).mem (hw.2 i hi)
 obtain⟨e1,b1,b2⟩:=z3t (w:=w) hS.parts (fun p hp=>by
   have:=Ai (hS.parts p hp)
   exact hsym _ (by omega))
 have hall:w.all symB=true:=by
   rw[List.all_eq_true];intro x hx;obtain⟨i,hi,rfl⟩:=List.getElem_of_mem hx;have:=hsym i (by rw[←hw.1];exact hi);have e:nth w i=w[i]:=by simp[nth,hi]
   rw[e] at this;simp[symB];omega
 have hright:Nc w t.parts=true:=by
   rw[Nc,List.all_eq_true];intro p hp;rw[hw.1];exact hS.parts p hp
 have hsum:=zdi w t.parts t.sum (zpf (by omega));rw[if_pos hright,e1,zpf (by omega)] at hsum;unfold I7;rw[if_pos hall,hsum];simp only;by_cases h:0≤t.sum+totW w t.parts∧t.sum+totW w t.parts≤1114111
 · have hvb:valB t.outer (t.sum+totW w t.parts)=true:=(Wq ho (by omega)).1
   have hv2:=Ez ho (x:=t.sum+totW w t.parts) (by omega);rw[if_pos h,if_pos (by simp[hvb];omega),show IntKind.i64.wrap (t.base+valP t.outer (t.sum+totW w t.parts))=t.base+valP t.outer (t.sum+totW w t.parts) from IntWalk.i64_in _ (by omega)]
 · rw[if_neg h,if_neg]
   simp only[valB,ho,Bool.true_and,Bool.and_eq_true,decide_eq_true_eq];omega
theorem Uv:∀ {m:List Span},Plain m→m≠[]→∃ a b,z0c m=some a∧z3g m=some b∧memL m a∧memL m b∧∀ v,memL m v→a≤v∧v≤b
 | [],_,h=>absurd rfl h
 | [s],h,_=>by
   have:=h.head;refine⟨s.lo,s.hi,rfl,rfl,Ax.2 (.inl (by omega)),Ax.2 (.inl (by omega)),fun v hv=>?_⟩;rw[Ax] at hv;simpa [Bh] using hv
 | s::r::m,h,_=>by
   have hs:=h.head;obtain⟨a,b,e1,e2,h1,h2,h3⟩:=Uv h.tail (by simp);have hb:=h.after h2;refine⟨s.lo,b,rfl,?_,Ax.2 (.inl (by omega)),Ax.2 (.inr h2),fun v hv=>?_⟩
   · simpa [z3g] using e2
   · rcases Ax.1 hv with h4|h4
     · omega
     · have:=h.after h4
       have:=h3 v h4;omega
theorem Lj {l:List Span} {v:Int} (h:memL l v):l≠[]:=by rintro rfl;exact Bh v h
theorem zak {l:List Span} {u:Int} (hu:memL l u) (hb:∀ v,memL l v→-1073741824≤v∧v≤1073741824):B9 l=true↔∀ v,memL l v→0≤v∧v≤1114111:=by
 obtain⟨p1,p2⟩:=Aq l;have hm:∀ v,memL (Ar l) v↔memL l v:=fun v=>by rw[p2];exact⟨fun h=>h.1,fun h=>⟨h,hb v h⟩⟩
 obtain⟨a,b,e1,e2,h1,h2,h3⟩:=Uv p1 (Lj ((hm u).2 hu))
 have hl:0<(l.length:Int):=by
   have:=List.length_pos_iff.2 (Lj hu);omega
 simp only[B9,e1,e2,Option.getD_some,Bool.and_eq_true,decide_eq_true_eq];constructor
 · rintro⟨_,k1,k2⟩ v hv
   have:=h3 v ((hm v).2 hv);omega
 · intro h
   exact⟨hl,(h a ((hm a).1 h1)).1,(h b ((hm b).1 h2)).2⟩
theorem z78 {gs:List (List Span)}:Np gs gs.length=true↔∃ w,Win (gs.map symI) w:=by
 rw[Np,List.take_length,List.all_eq_true];constructor
 · intro h
   refine⟨(gs.map symI).map fun s=>(nth s 0).lo,by simp,fun i hi=>?_⟩;have hi':i<gs.length:=by simpa using hi
   have h1:=h _ (Ao hi');have e1:nth (gs.map symI) i=symI (nth gs i):=by simp[nth,hi']
   have e2:nth ((gs.map symI).map fun s=>(nth s 0).lo) i=(nth (symI (nth gs i)) 0).lo:=by simp[nth,hi']
   rw[e1,e2];simp only[decide_eq_true_eq] at h1;have hm:=Ao (l:=symI (nth gs i)) (i:=0) (by omega);have hs:=(z0a (nth gs i)).2 _ hm;exact⟨_,hm,by omega,by omega⟩
 · rintro⟨w,hw⟩ g hg
   obtain⟨i,hi,rfl⟩:=List.getElem_of_mem hg;have h1:=hw.2 i (by simpa using hi);have e1:nth (gs.map symI) i=symI gs[i]:=by simp[nth,hi]
   rw[e1] at h1;have:=List.length_pos_iff.2 (Lj h1);simp only[decide_eq_true_eq];omega
theorem zal {t:Term} {gs:List (List Span)} (h4:gs.length≤4) (hn:B4 t=true) (hp:prtB t gs.length=true) :
   ((Em t gs).2=true↔∀ w,Win (gs.map symI) w→(I7 t w).isSome=true)∧((Em t gs).2=false→(Em t gs).1=[]) ∧
   ((Em t gs).2=true→Plain (Em t gs).1∧∀ v,memL (Em t gs).1 v↔∃ w,Win (gs.map symI) w∧I7 t w=some v):=by
 have hS:=J9 hp h4;have hnum:=hn;simp only[B4,Bool.and_eq_true,decide_eq_true_eq] at hnum;obtain⟨⟨⟨hb,hs⟩,ho⟩,_,hl⟩:=hnum;have hsm:=Fh hs;have hbm:=Fh hb
 have hI:El t gs=if Np gs gs.length=false then ([],true) else (Bb t (gs.map symI),B9 (Bb t (gs.map symI))):=by
   rw[El,if_neg (by simp[hn];omega),if_neg (by simp[hp])]
 have hsome:=@z78 gs;cases hB:Np gs gs.length
 · rw[hB] at hI hsome
   have hno:∀ w,¬Win (gs.map symI) w:=fun w hw=>by have:=hsome.2 ⟨w,hw⟩;cases this
   have e:Em t gs=([],true):=by rw[Em,hI];simp
   rw[e];refine⟨⟨fun _ w hw=>absurd hw (hno w),fun _=>rfl⟩,fun h=>(by cases h),fun _=>⟨⟨by simp,by simp⟩,fun v=>⟨fun h=>absurd h (Bh v),fun⟨w,hw,_⟩=>absurd hw (hno w)⟩⟩⟩
 · rw[hB] at hI hsome
   obtain⟨w0,hw0⟩:=hsome.1 rfl;obtain⟨v1,v2⟩:=zf3 hS hl hs ⟨w0,hw0⟩
   have hbd:∀ w,Win (gs.map symI) w→0≤totW w t.parts∧totW w t.parts≤264241152:=fun w hw=>by
     obtain⟨_,b1,b2⟩:=z3t (w:=w) hS.parts (fun p hp=>by
       have:=Ai (hS.parts p hp)
       exact (hS.syms _ (Ao (by omega))).mem (hw.2 _ (by omega)))
     omega
   have hin:=zak ((v2 _).2 ⟨w0,hw0,rfl⟩) (fun v hv=>by
     obtain⟨w,hw,rfl⟩:=(v2 v).1 hv;have:=hbd w hw
     omega)
   have hin2:B9 (Bb t (gs.map symI))=true↔∀ w,Win (gs.map symI) w→(I7 t w).isSome=true:=by
     rw[hin];constructor
     · intro h w hw
       rw[Hj hS hn hw,if_pos (h _ ((v2 _).2 ⟨w,hw,rfl⟩))];rfl
     · intro h v hv
       obtain⟨w,hw,rfl⟩:=(v2 v).1 hv;have:=h w hw;rw[Hj hS hn hw] at this;split at this
       · assumption
       · cases this
   have hne:(Bb t (gs.map symI)).length≠0:=fun h=>Lj ((v2 _).2 ⟨w0,hw0,rfl⟩) (List.eq_nil_of_length_eq_zero h);cases hi:B9 (Bb t (gs.map symI))
   · have e:Em t gs=([],false):=by rw[Em,hI];simp[hi]
     rw[e];rw[hi] at hin2;exact⟨hin2,fun _=>rfl,fun h=>by cases h⟩
   · have e:Em t gs=(Dx (imgL t.outer (Bb t (gs.map symI))) t.base,true):=by
       rw[Em,hI];simp[hi,hne]
     rw[e];rw[hi] at hin2;refine⟨hin2,fun h=>(by cases h),fun _=>⟨?_,fun v=>?_⟩⟩
     · unfold Dx
       split
       · exact⟨by simp,by simp⟩
       · exact (Aq _).1
     · obtain⟨_,i2⟩:=z74 (Bb t (gs.map symI)) ho
       rw[Xb (by omega),i2];constructor
       · rintro⟨⟨⟨x,h1,h2,h3⟩,_⟩,_⟩
         obtain⟨w,hw,rfl⟩:=(v2 x).1 h1;have hv:=hin.1 hi _ h1;exact⟨w,hw,by rw[Hj hS hn hw,if_pos hv,h3];congr 1;omega⟩
       · rintro⟨w,hw,h⟩
         have hm:=(v2 _).2 ⟨w,hw,rfl⟩;have hv:=hin.1 hi _ hm;rw[Hj hS hn hw,if_pos hv] at h;have hvs:=Ez ho (x:=t.sum+totW w t.parts) (by omega);simp only[Option.some.injEq] at h;exact⟨⟨⟨_,hm,by omega,by omega⟩,by omega⟩,by omega⟩
def O8 (s x:Int):Bool:=decide ((s=1∧0≤x∧x<256)∨(s=2∧0≤x∧x<1114112∧(x<55296∨57344≤x)))
def fitW (t:Term) (o:Int) (w:List Int):Bool:=match I7 t w with
 | some v=>decide (0≤v∧v≤1114111)&&O8 o v
 | none=>false
theorem win_cons {g:List Span} {gs:List (List Span)} {w:List Int}:Win (g::gs) w↔∃ x r,w=x::r∧memL g x∧Win gs r:=by
 constructor
 · rintro⟨h1,h2⟩
   cases w with
   | nil=>simp at h1
   | cons x r =>
     refine⟨x,r,rfl,?_,by simpa using h1,fun i hi=>?_⟩
     · exact h2 0 (by simp)
     · exact h2 (i+1) (by simp;omega)
 · rintro⟨x,r,rfl,h1,h2⟩
   refine⟨by simp[h2.1],fun i hi=>?_⟩;cases i with
   | zero=>exact h1
   | succ i=>exact h2.2 i (by simp at hi;omega)
theorem zpx {w:List Int}:Win [] w↔w=[]:=by
 constructor
 · rintro⟨h,_⟩;exact List.eq_nil_of_length_eq_zero h
 · rintro rfl;exact⟨rfl,fun i hi=>by simp at hi⟩
theorem zf4 {l:List Span} {v:Int} (h:-1073741824≤v∧v≤1073741824):hasI l v=true↔memL l v:=by
 rw[Fz];exact⟨fun h=>h.2.2,fun hm=>⟨h.1,h.2,hm⟩⟩
theorem Lk {o v:Int}:memL (domL o) v↔O8 o v=true:=by
 unfold domL;simp only[O8,decide_eq_true_eq];split
 · rw[Ax];simp only[Bh,or_false];omega
 · split
   · rw[Ax,Ax];simp only[Bh,or_false];omega
   · simp only[Bh,false_iff];omega
theorem Pp {o v:Int} (h:O8 o v=true):0≤v∧v≤1114111:=by
 simp only[O8,decide_eq_true_eq] at h;omega
theorem Hk {l d:List Span} (hl:∀ v,memL l v→-1073741824≤v∧v≤1073741824) (hp:Full l):Eq l d=[]↔∀ v,memL l v→memL d v:=by
 obtain⟨m1,m2⟩:=Ui l d;constructor
 · intro h v hv
   rw[h] at m2;exact Classical.byContradiction fun hn=>Bh v ((m2 v).2 ⟨hv,hl v hv,hn⟩)
 · intro h
   cases hm:Eq l d with
   | nil=>rfl
   | cons s r =>
     rw[hm] at m1 m2;obtain⟨a,_,c⟩:=(m2 s.lo).1 (Ax.2 (.inl ⟨Int.le_refl _,m1.1 s (by simp)⟩));exact absurd (h _ a) c
theorem Ey {t:Term} {i o n:Int} (h:Ep t i o n=true):B4 t=true∧prtB t n=true:=by
 simp only[Ep,Cx,Bool.and_eq_true] at h;obtain⟨⟨⟨⟨_,hn⟩,hr⟩,_⟩,_⟩:=h;refine⟨hn,?_⟩;rw[prtB,List.all_eq_true];intro p hp;have:=List.all_eq_true.1 hr p hp;simp only[Bool.and_eq_true] at this;exact this.1
theorem z79 {t:Term} {gs:List (List Span)} (h4:gs.length≤4) (hn:B4 t=true) (hp:prtB t gs.length=true) {w:List Int} {v:Int} (hw:Win (gs.map symI) w) (hv:I7 t w=some v):-1073741824≤v∧v≤1073741824:=by
 have hnum:=hn;simp only[B4,Bool.and_eq_true,decide_eq_true_eq] at hnum;have hbm:=Fh hnum.1.1.1;rw[Hj (J9 hp h4) hn hw] at hv;split at hv
 · have:=Ez hnum.1.2 (x:=t.sum+totW w t.parts) (by omega)
   simp only[Option.some.injEq] at hv;omega
 · cases hv
theorem z0l {t:Term} {i o:Int} {gs:List (List Span)} (h4:gs.length≤4):O7 t i o gs=true↔Ep t i o gs.length=true∧∀ w,Win (gs.map symI) w→fitW t o w=true:=by
 rw[O7,Bool.and_eq_true,Bool.and_eq_true,decide_eq_true_eq];refine and_congr_right fun hr=>?_;obtain⟨hn,hp⟩:=Ey hr;obtain⟨s1,s2,s3⟩:=zal h4 hn hp;constructor
 · rintro⟨hi,hm⟩ w hw
   obtain⟨p1,p2⟩:=s3 hi;rw[Hk (fun v hv=>by obtain⟨w,h1,h2⟩:=(p2 v).1 hv;exact z79 h4 hn hp h1 h2) p1.1] at hm;have hv:=zix (s1.1 hi w hw);have:=Lk.1 (hm _ ((p2 _).2 ⟨w,hw,hv⟩));have hb:=Pp this;rw[fitW,hv];simp[hb,this]
 · intro h
   have hi:(Em t gs).2=true:=s1.2 fun w hw=>by
     have:=h w hw;rw[fitW] at this;cases hv:I7 t w with
     | none=>rw[hv] at this;cases this
     | some v=>rfl
   obtain⟨p1,p2⟩:=s3 hi;refine⟨hi,(Hk (fun v hv=>by obtain⟨w,h1,h2⟩:=(p2 v).1 hv;exact z79 h4 hn hp h1 h2) p1.1).2 fun v hv=>?_⟩;obtain⟨w,h1,h2⟩:=(p2 v).1 hv;have:=h w h1;rw[fitW,h2] at this;simp only[Bool.and_eq_true] at this;exact Lk.2 this.2
theorem F4 {d:Desc} (h:Dl d=0):Ry d=true∧(∀ r∈d.rules,Ew d r=true)∧∀ f∈d.finals,Df d f=true:=by
 have h0:(D8 d).1=0:=by
   unfold Dl at h;split at h
   · assumption
   · omega
 unfold D8 at h0;split at h0
 · simp at h0
 · rename_i hh
   refine⟨by simpa using hh,?_⟩;split at h0
   · simp at h0
   · rename_i hr
     split at h0
     · simp at h0
     · rename_i hf
       exact⟨Hi hr,Hi hf⟩
theorem Jf {d:Desc} {out:List Term} {gs:List (List Span)} (h:De d out gs=true):out.length≤64∧∀ t∈out,t.parts.length≤4:=by
 simp only[De,Bool.and_eq_true,decide_eq_true_eq] at h;refine⟨by omega,fun t ht=>?_⟩;have:=List.all_eq_true.1 h.2 t ht;simp only[O7,Bool.and_eq_true] at this;have h2:=(Ey this.1).1;simp only[B4,Bool.and_eq_true,decide_eq_true_eq] at h2;exact h2.2.2
theorem zf5 {α β:Type} [Inhabited α] (base:List β) (l:List α) (f:α→β):∃ g:Nat→List β,g 0=base∧(∀ k,k<l.length→g (k+1)=g k++[f (nth l k)])∧g l.length=base++l.map f∧∀ k,(g k).length≤base.length+k :=
 ⟨fun k=>base++(l.take k).map f,by simp,fun k hk=>by simp only;rw[take_at hk];simp,by simp only;rw[List.take_length],fun k=>by simp;omega⟩
theorem Mu {α:Type} {p:α→Bool}:∀ {l:List α} {i:Nat},(∀ x∈l,p x=true)→E8 p l i=none
 | [],_,_=>rfl
 | x::l,i,h=>by rw[E8,if_pos (h x (by simp)),Mu fun y hy=>h y (by simp[hy])]
theorem z3u {d:Desc} (h1:Ry d=true) (h2:∀ r∈d.rules,Ew d r=true) (h3:∀ f∈d.finals,Df d f=true) (h4:¬cycP d.rules d.states.toNat):D8 d=(0,0)∧Dl d=0:=by
 have e:D8 d=(0,0):=by
   rw[D8,if_neg (by simp[h1]),Mu h2];simp only;rw[Mu h3];simp only;rw[if_neg h4]
 exact⟨e,by rw[Dl,e];rfl⟩
theorem zk6 (s:Int):Full (domL s)∧∀ v,memL (domL s) v→0≤v∧v≤1114111:=by
 refine⟨fun t ht=>?_,fun v hv=>Pp (Lk.1 hv)⟩;unfold domL at ht;split at ht
 · simp at ht;subst ht;simp
 · split at ht
   · simp at ht;rcases ht with rfl|rfl<;>simp
   · cases ht
def zu1 (a b:Int):Desc:=⟨a,b,1,0,[],[]⟩
structure zpy (d:Desc) (k:Nat) (f:Bool) (w a l:Int):Prop where
 le:k≤d.rules.length
 fr:freeB d=(f&&(d.rules.drop k).all fun r=>!Cf r)
 wi:ztz d=(d.rules.drop k).foldl widF w
 ah:zu0 d=(d.rules.drop k).foldl aheF a
 lo:S7 d=d.finals.foldl lonG ((d.rules.drop k).foldl lonF l)
 nn:0≤a
theorem zpy.step {d:Desc} {k:Nat} {f:Bool} {w a l:Int} (h:zpy d k f w a l) (hk:k<d.rules.length) {f2:Bool} {w2 a2 l2:Int} (e1:f2=(f&&!Cf (nth d.rules k))) (e2:w2=widF w (nth d.rules k)) (e3:a2=aheF a (nth d.rules k)) (e4:l2=lonF l (nth d.rules k)):zpy d (k+1) f2 w2 a2 l2 where
 le:=by omega
 fr:=by rw[h.fr,drop_at hk,List.all_cons,e1,Bool.and_assoc]
 wi:=by rw[h.wi,fold_at hk,e2]
 ah:=by rw[h.ah,fold_at hk,e3]
 lo:=by rw[h.lo,fold_at hk,e4]
 nn:=by have:=h.nn;rw[e3,aheF];omega
def famB (n:Nat) (f:Nat→Bool):List AV:=(List.range n).map fun i=>AV.bool (f i)
theorem Xj {n i:Nat} {f:Nat→Bool} {x:Bool} (h:i<n):(famB n f).set i (.bool x)=famB n fun j=>if j=i then x else f j:=by
 rw[famB,Ee h,famB];refine List.map_congr_left fun p _=>?_;by_cases e:p=i
 · subst e;simp
 · simp[e]
theorem F1 {n:Nat} {f g:Nat→Bool} (h:∀ i,i<n→f i=g i):famB n f=famB n g:=List.map_congr_left fun i hi=>by rw[h i (by simpa using hi)]
theorem z7a (n:Nat):List.replicate n (AV.bool false)=famB n fun _=>false:=by
 refine List.ext_getElem (by simp[famB]) fun i h1 h2=>?_;simp[famB]
theorem zk7 {l:List Rule} {on:Nat→Bool} {m:Nat} (hm:m<l.length):onF (l.take (m+1)) on=fun j=>onF (l.take m) on j||(Cf (nth l m)&&(on (nth l m).from_.toNat&&decide ((nth l m).to_=j))):=by
 funext j;rw[onF,take_at hm,List.any_append];simp[onF]
theorem zam {l:List Rule} {on:Nat→Bool} {m:Nat} (hm:m<l.length):Kl (l.take (m+1)) on=(Kl (l.take m) on||(Cf (nth l m)&&on (nth l m).from_.toNat)):=by
 rw[Kl,take_at hm,List.any_append];simp[Kl]
theorem z3v (d:Desc) (hd:zty d):PC Tryz.prog 93 [Bp d] (.bool (cycR d.rules d.states.toNat)):=by
 obtain⟨⟨hn1,hn2⟩,hlen,hrul⟩:=hd;have hPr:=Az d.rules;have hPf:=Av d.finals;obtain⟨n,hn⟩:∃ n:Nat,d.states=n:=⟨d.states.toNat,by omega⟩
 have pB:∀ f,Aw (famB n f)=true:=fun f=>Bv.2 fun x hx=>by
   obtain⟨i,_,rfl⟩:=List.mem_map.1 hx;rfl
 have lB:∀ f,(famB n f).length=n:=fun f=>by simp[famB]
 have aB:∀ f i,i<n→(famB n f).getD i .any=.bool (f i):=fun f i hi=>Cg hi;have rB:=z7a n;have hpd:Aw [Bp d]=true:=by simp[Aw,Hh]
 refine A9 V7 ?_;unfold L3;rw[hn,Int.toNat_natCast];(with_reducible repeat' (first|(simp(disch:=omega)only[push_cast,↓zz,seval,hn])|refine And.intro ?_ ?_|(first|refine Ab ?_ ?_|refine Aa ?_ ?_)<;>intro hc<;>(try simp only[push_cast] at hc)|omega|intro _))
 refine An (Ap (fun (k:Nat)=>k≤n) (fun k=>n-k)
   (fun k=>[(1,.ptr 0 1 0 0),(3,.ref 1 1 0 n),(13,.int .i64 n),(14,.int .i64 k)]) (fun k=>[⟨6,1,true,[Bp d]⟩,⟨1,1,true,famB n fun i=>decide (i<k)⟩]) (fun env _=>[A5 6 (env 1),A5 1 (env 3)]) 0 (by simp) ?_ ?_)
 · have e0:(famB n fun i=>decide (i<0))=famB n fun _=>false:=F1 fun i _=>by simp
   (with_reducible repeat' (first|(simp(disch:=omega)only[push_cast,↓zz,seval,hPr,hPf,hn,rB,e0,pB,lB,Int.toNat_natCast])|refine And.intro ?_ ?_|(first|refine Ab ?_ ?_|refine Aa ?_ ?_)<;>intro hc<;>(try simp only[push_cast] at hc)|omega|intro _))
 intro k hk;rcases Nat.lt_or_ge k n with hkn|hkn
 · have hs:=Xj (f:=fun i=>decide (i<k)) (x:=true) hkn
   have he:(famB n fun j=>if j=k then true else decide (j<k))=famB n fun i=>decide (i<k+1):=F1 fun i _=>by
     by_cases h:i=k
     · subst h;simp
     · rw[if_neg h,decide_eq_decide];omega
   rw[he] at hs;refine W_T ?_;(with_reducible repeat' (first|(simp(disch:=omega)only[push_cast,↓zz,seval,hPr,hPf,hn,pB,lB,hs])|refine And.intro ?_ ?_|(first|refine Ab ?_ ?_|refine Aa ?_ ?_)<;>intro hc<;>(try simp only[push_cast] at hc)|omega|intro _))
   all_goals
     refine⟨k+1,?_⟩;(with_reducible repeat' (first|(simp(disch:=omega)only[push_cast,↓zz,seval])|refine And.intro ?_ ?_|(first|refine Ab ?_ ?_|refine Aa ?_ ?_)<;>intro hc<;>(try simp only[push_cast] at hc)|omega|intro _))
 · have hkk:n=k:=by omega
   subst hkk;have he:(famB n fun i=>decide (i<n))=famB n (onK d.rules 0):=F1 fun i hi=>by simp[onK,hi]
   rw[he];refine W_T ?_;(with_reducible repeat' (first|(simp(disch:=omega)only[push_cast,↓zz,seval,hPr,hPf,hn,pB,lB])|refine And.intro ?_ ?_|(first|refine Ab ?_ ?_|refine Aa ?_ ?_)<;>intro hc<;>(try simp only[push_cast] at hc)|omega|intro _))
   refine An (Ap (fun (k:Nat)=>k≤n+1∧∀ i,i<k→Kl d.rules (onK d.rules i)=true) (fun k=>n+1-k)
     (fun k=>[(1,.ptr 0 1 0 0),(3,.ref 1 1 0 n),(5,.int .i64 k)]) (fun k=>[⟨6,1,true,[Bp d]⟩,⟨1,1,true,famB n (onK d.rules k)⟩]) (fun env _=>[A5 6 (env 1),A5 1 (env 3)]) 0 ⟨by simp,fun i hi=>by omega⟩ ?_ ?_)
   · (with_reducible repeat' (first|(simp(disch:=omega)only[push_cast,↓zz,seval,hPr,hPf,hn,pB,lB])|refine And.intro ?_ ?_|(first|refine Ab ?_ ?_|refine Aa ?_ ?_)<;>intro hc<;>(try simp only[push_cast] at hc)|omega|intro _))
   rintro k ⟨k1,k2⟩;rcases Nat.lt_or_ge k (n+1) with hk1|hk1
   · generalize hon:onK d.rules k=on at *
     refine W_T ?_;(with_reducible repeat' (first|(simp(disch:=omega)only[push_cast,↓zz,seval,hPr,hPf,hn,pB,lB,rB,Int.toNat_natCast])|refine And.intro ?_ ?_|(first|refine Ab ?_ ?_|refine Aa ?_ ?_)<;>intro hc<;>(try simp only[push_cast] at hc)|omega|intro _))
     refine An (Ap (fun (m:Nat)=>m≤d.rules.length) (fun m=>d.rules.length-m)
       (fun m=>[(1,.ptr 0 1 0 0),(3,.ref 1 1 0 n),(5,.int .i64 k),(6,.ref 2 1 0 n),(7,.bool (Kl (d.rules.take m) on)),(8,.int .i64 m)]) (fun m=>[⟨6,1,true,[Bp d]⟩,⟨1,1,true,famB n on⟩,⟨1,1,true,famB n (onF (d.rules.take m) on)⟩]) (fun env _=>[A5 6 (env 1),A5 1 (env 3),A5 1 (env 6)]) 0 (by simp) ?_ ?_)
     · have e1:famB n (onF [] on)=famB n fun _=>false:=F1 fun i _=>by simp[onF]
       have e2:Kl [] on=false:=by simp[Kl]
       (with_reducible repeat' (first|(simp(disch:=omega)only[push_cast,↓zz,seval,hPr,hPf,hn,pB,lB,e1,e2])|refine And.intro ?_ ?_|(first|refine Ab ?_ ?_|refine Aa ?_ ?_)<;>intro hc<;>(try simp only[push_cast] at hc)|omega|intro _))
     intro m hm;rcases Nat.lt_or_ge m d.rules.length with hml|hml
     · have hr:=hrul _ (Ao hml)
       have e1:=zk7 (on:=on) hml;have e2:=zam (on:=on) hml;generalize hre:nth d.rules m=r at *;have hP:=Ad r.guards;have hT:=Am r.out;obtain⟨i,hi⟩:∃ i:Nat,r.from_=i:=⟨r.from_.toNat,by omega⟩;obtain⟨j,hj⟩:∃ j:Nat,r.to_=j:=⟨r.to_.toNat,by omega⟩;have hin:i<n:=by omega
       have hjn:j<n:=by omega
       have aI:=aB on i hin;have hset:=Xj (f:=onF (d.rules.take m) on) (x:=true) hjn;rw[hi,hj,Int.toNat_natCast] at e1;rw[hi,Int.toNat_natCast] at e2;by_cases he:(r.guards.length:Int)=0
       · have hie:Cf r=true:=by simp[Cf,he]
         rw[hie] at e1 e2;cases hoi:on i with
         | true =>
           rw[hoi] at aI e1 e2
           have e3:(famB n fun p=>if p=j then true else onF (d.rules.take m) on p)=famB n (onF (d.rules.take (m+1)) on):=F1 fun p _=>by
             rw[e1];by_cases h:p=j
             · subst h;simp
             · have:¬(j:Int)=p:=by omega
               simp[h,this]
           rw[e3] at hset;simp only[Bool.and_self,Bool.or_true] at e2;refine W_T ?_;(with_reducible repeat' (first|(simp(disch:=omega)only[push_cast,↓zz,seval,hPr,hPf,hn,pB,lB,hre,hP,hT,hi,hj,he,aI,hset])|refine And.intro ?_ ?_|(first|refine Ab ?_ ?_|refine Aa ?_ ?_)<;>intro hc<;>(try simp only[push_cast] at hc)|omega|intro _))
           all_goals
             refine⟨m+1,?_⟩;(with_reducible repeat' (first|(simp(disch:=omega)only[push_cast,↓zz,seval,e2])|refine And.intro ?_ ?_|(first|refine Ab ?_ ?_|refine Aa ?_ ?_)<;>intro hc<;>(try simp only[push_cast] at hc)|omega|intro _))
         | false =>
           rw[hoi] at aI e1 e2;have e3:famB n (onF (d.rules.take (m+1)) on)=famB n (onF (d.rules.take m) on):=F1 fun p _=>by rw[e1];simp
           simp only[Bool.and_false,Bool.or_false] at e2;refine W_T ?_;(with_reducible repeat' (first|(simp(disch:=omega)only[push_cast,↓zz,seval,hPr,hPf,hn,pB,lB,hre,hP,hT,hi,hj,he,aI])|refine And.intro ?_ ?_|(first|refine Ab ?_ ?_|refine Aa ?_ ?_)<;>intro hc<;>(try simp only[push_cast] at hc)|omega|intro _))
           all_goals
             refine⟨m+1,?_⟩;(with_reducible repeat' (first|(simp(disch:=omega)only[push_cast,↓zz,seval,e2,e3])|refine And.intro ?_ ?_|(first|refine Ab ?_ ?_|refine Aa ?_ ?_)<;>intro hc<;>(try simp only[push_cast] at hc)|omega|intro _))
       · have hie:Cf r=false:=decide_eq_false he
         rw[hie] at e1 e2;have e3:famB n (onF (d.rules.take (m+1)) on)=famB n (onF (d.rules.take m) on):=F1 fun p _=>by rw[e1];simp
         simp only[Bool.false_and,Bool.or_false] at e2;refine W_T ?_;(with_reducible repeat' (first|(simp(disch:=omega)only[push_cast,↓zz,seval,hPr,hPf,hn,pB,lB,hre,hP,hT,hi,hj,he])|refine And.intro ?_ ?_|(first|refine Ab ?_ ?_|refine Aa ?_ ?_)<;>intro hc<;>(try simp only[push_cast] at hc)|omega|intro _))
         all_goals
           refine⟨m+1,?_⟩;(with_reducible repeat' (first|(simp(disch:=omega)only[push_cast,↓zz,seval,e2,e3])|refine And.intro ?_ ?_|(first|refine Ab ?_ ?_|refine Aa ?_ ?_)<;>intro hc<;>(try simp only[push_cast] at hc)|omega|intro _))
     · have hme:m=d.rules.length:=by omega
       subst hme;rw[List.take_length];have hnx:onF d.rules on=onK d.rules (k+1):=by rw[←hon];rfl
       rw[hnx];cases hsm:Kl d.rules on with
       | false =>
         have hres:cycR d.rules n=false:=by
           rw[cycR,List.all_eq_false];exact⟨k,by simp;omega,by rw[hon,hsm];simp⟩
         rw[hres];refine W_T ?_;(with_reducible repeat' (first|(simp(disch:=omega)only[push_cast,↓zz,seval,hPr,hPf,hn,pB,lB])|refine And.intro ?_ ?_|(first|refine Ab ?_ ?_|refine Aa ?_ ?_)<;>intro hc<;>(try simp only[push_cast] at hc)|omega|intro _))
       | true =>
         have hall:∀ i,i<k+1→Kl d.rules (onK d.rules i)=true:=fun i hi=>by
           rcases Nat.lt_or_ge i k with h|h
           · exact k2 i h
           · obtain rfl:i=k:=by omega
             rw[hon];exact hsm
         refine W_T ?_;(with_reducible repeat' (first|(simp(disch:=omega)only[push_cast,↓zz,seval,hPr,hPf,hn,pB,lB])|refine And.intro ?_ ?_|(first|refine Ab ?_ ?_|refine Aa ?_ ?_)<;>intro hc<;>(try simp only[push_cast] at hc)|omega|intro _))
         all_goals
           refine⟨k+1,?_⟩;(with_reducible repeat' (first|(simp(disch:=omega)only[push_cast,↓zz,seval])|refine And.intro ?_ ?_|(first|refine Ab ?_ ?_|refine Aa ?_ ?_)<;>intro hc<;>(try simp only[push_cast] at hc)|omega|intro _))
         all_goals first|exact hall _ (by omega)|exact hall
   · have hke:k=n+1:=by omega
     have hres:cycR d.rules n=true:=by
       rw[cycR,List.all_eq_true];intro i hi;exact k2 i (by simp at hi;omega)
     rw[hres];refine W_T ?_;(with_reducible repeat' (first|(simp(disch:=omega)only[push_cast,↓zz,seval,hPr,hPf,hn,pB,lB])|refine And.intro ?_ ?_|(first|refine Ab ?_ ?_|refine Aa ?_ ?_)<;>intro hc<;>(try simp only[push_cast] at hc)|omega|intro _))
     all_goals trace_state
end Go.Proofs.YtbcjoeadpjfcfaaGreat
namespace Go.Proofs.YtbcjoeadpjfcfaaGreat
open Abs
def epsI (l:List Rule) (s:Int):List Nat:=(List.range l.length).filter fun i=>Cf (nth l i)&&decide ((nth l i).from_=s)
theorem F2 {l:List Rule} {s:Int} {i:Nat}:i∈epsI l s↔i<l.length∧Cf (nth l i)=true∧(nth l i).from_=s:=by
 simp[epsI]
def okP (l:List Rule):Int→List Nat→Prop
 | _,[]=>True
 | s,i::p=>i∈epsI l s∧okP l (nth l i).to_ p
def endP (l:List Rule):Int→List Nat→Int
 | s,[]=>s
 | _,i::p=>endP l (nth l i).to_ p
def E5 (l:List Rule):Nat→Int→List (List Nat)
 | 0,_=>[[]]
 | f+1,s=>[]::(epsI l s).flatMap fun i=>(E5 l f (nth l i).to_).map (i::·)
theorem Uw {l:List Rule}:∀ (f:Nat) (s:Int),(∀ p,okP l s p→p.length≤f)→E5 l (f+1) s=E5 l f s
 | 0,s,h=>by
   have:epsI l s=[]:=List.eq_nil_iff_forall_not_mem.2 fun i hi=>by
     have:=h [i] ⟨hi,trivial⟩;simp at this
   simp[E5,this]
 | f+1,s,h=>by
   rw[E5,E5];congr 1
   have key:∀ L:List Nat,(∀ i∈L,i∈epsI l s)→(L.flatMap fun i=>(E5 l (f+1) (nth l i).to_).map (i::·))=L.flatMap fun i=>(E5 l f (nth l i).to_).map (i::·):=fun L=>by
     induction L with
     | nil=>intro _;rfl
     | cons i L ih =>
       intro hL
       rw[List.flatMap_cons,List.flatMap_cons,ih fun j hj=>hL j (by simp[hj]),Uw f _ fun p hp=>by
         have:=h (i::p) ⟨hL i (by simp),hp⟩
         simpa using this]
   exact key _ fun i hi=>hi
theorem zu2 {l:List Rule} {on:Nat→Bool} {i j:Nat} (hi:i<l.length) (he:Cf (nth l i)=true) (ho:on (nth l i).from_.toNat=true) (ht:(nth l i).to_=j):onF l on j=true:=by
 rw[onF,List.any_eq_true];exact⟨nth l i,Ao hi,by simp[he,ho,ht]⟩
theorem zlt {l:List Rule} {n:Nat} (hl:∀ r∈l,(0≤r.from_∧r.from_<n)∧0≤r.to_∧r.to_<n):∀ (p:List Nat) (k:Nat) (s:Int),0≤s→onK l k s.toNat=true→okP l s p→onK l (k+p.length) (endP l s p).toNat=true
 | [],k,s,_,ho,_=>ho
 | i::p,k,s,hs,ho,hp=>by
   obtain⟨h1,h2,h3⟩:=F2.1 hp.1;have hr:=hl _ (Ao h1);have ht:onK l (k+1) (nth l i).to_.toNat=true:=zu2 h1 h2 (by rw[h3];exact ho) (by omega);have:=zlt hl p (k+1) (nth l i).to_ hr.2.1 ht hp.2;rw[List.length_cons,show k+(p.length+1)=k+1+p.length by omega];exact this
theorem z3w {l:List Rule} {n:Nat} (hl:∀ r∈l,(0≤r.from_∧r.from_<n)∧0≤r.to_∧r.to_<n) (hc:¬cycP l n) {s:Int} (hs:0≤s) {p:List Nat} (hp:okP l s p):p.length≤n+1:=by
 have hcr:¬cycR l n=true:=fun h=>hc ((z6n hl).1 h)
 have:∃ k,k≤n∧Kl l (onK l k)=false:=by
   refine Classical.byContradiction fun hh=>hcr ?_;rw[cycR,List.all_eq_true];intro k hk;refine Classical.byContradiction fun h2=>hh ⟨k,by simp at hk;omega,by simpa using h2⟩
 obtain⟨k,hk,hkf⟩:=this
 have hno:∀ j,onK l (k+1) j=false:=fun j=>by
   refine Classical.byContradiction fun hh=>?_;have h1:onF l (onK l k) j=true:=by simpa [onK] using hh
   rw[onF,List.any_eq_true] at h1;obtain⟨r,hr,h2⟩:=h1;simp only[Bool.and_eq_true] at h2
   have:Kl l (onK l k)=true:=by
     rw[Kl,List.any_eq_true];exact⟨r,hr,by simp[h2.1,h2.2.1]⟩
   rw[hkf] at this;cases this
 refine Classical.byContradiction fun hlen=>?_;have h1:=zlt hl p 0 s hs rfl hp;rw[Nat.zero_add] at h1
 have down:∀ m j,onK l (k+1+m) j=true→onK l (k+1) j=true:=fun m=>by
   induction m with
   | zero=>exact fun j h=>h
   | succ m ih=>exact fun j h=>ih j (W2 l _ j h)
 have:=down (p.length-(k+1)) (endP l s p).toNat (by rw[show k+1+(p.length-(k+1))=p.length by omega];exact h1);rw[hno] at this;cases this
def D2 (l:List Rule) (n:Nat) (s:Int):List (List Nat):=E5 l (n+1) s
theorem zk8 {l:List Rule} {n:Nat} (hl:∀ r∈l,(0≤r.from_∧r.from_<n)∧0≤r.to_∧r.to_<n) (hc:¬cycP l n) {s:Int} (hs:0≤s):D2 l n s=[]::(epsI l s).flatMap fun i=>(D2 l n (nth l i).to_).map (i::·):=by
 have h1:E5 l (n+2) s=E5 l (n+1) s:=Uw (n+1) s fun p hp=>z3w hl hc hs hp;show E5 l (n+1) s=_;rw[←h1,E5];rfl
theorem z7b {l:List Rule}:∀ (f:Nat) (s:Int) (p:List Nat),p∈E5 l f s→okP l s p
 | 0,s,p,h=>by simp[E5] at h;subst h;trivial
 | f+1,s,p,h=>by
   rw[E5,List.mem_cons,List.mem_flatMap] at h;rcases h with rfl|⟨i,hi,h⟩
   · trivial
   · obtain⟨q,hq,rfl⟩:=List.mem_map.1 h
     exact⟨hi,z7b f _ q hq⟩
def Dg (E:List Nat) (m:Nat):Option Nat:=E.find? fun j=>decide (m≤j)
def Xk (l:List Rule):Int→List Nat→Option (List Nat)
 | s,[]=>(Dg (epsI l s) 0).map fun i=>[i]
 | s,i::p=>match Xk l (nth l i).to_ p with
   | some q=>some (i::q)
   | none=>(Dg (epsI l s) (i+1)).map fun j=>[j]
theorem z3x (E:List Nat):Dg E 0=E.head? := by
 cases E with
 | nil=>rfl
 | cons a E=>simp[Dg]
theorem z3y {E1 E2:List Nat} {i:Nat} (hs:(E1++i::E2).Pairwise (·<·)):Dg (E1++i::E2) (i+1)=E2.head? := by
 rw[List.pairwise_append] at hs;obtain⟨_,h2,h3⟩:=hs;rw[List.pairwise_cons] at h2
 have e1:E1.find? (fun j=>decide (i+1≤j))=none:=List.find?_eq_none.2 fun j hj=>by
   have:=h3 j hj i (by simp);simp;omega
 rw[Dg,List.find?_append,e1];cases E2 with
 | nil=>simp
 | cons a E2 =>
   have:=h2.1 a (by simp);have hi:decide (i+1≤i)=false:=by simp
   have ha:decide (i+1≤a)=true:=by simp;omega
   simp[List.find?_cons,hi,ha]
theorem R5 (l:List Rule) (s:Int):(epsI l s).Pairwise (·<·):=List.Pairwise.filter _ List.pairwise_lt_range
theorem Kd (l:List Rule) (f:Nat) (s:Int):∃ r,E5 l f s=[]::r:=by
 cases f with
 | zero=>exact⟨[],rfl⟩
 | succ f=>exact⟨_,rfl⟩
theorem z0m {l:List Rule}:∀ (f:Nat) (s:Int),(∀ p,okP l s p→p.length≤f)→∀ (k:Nat) (p:List Nat),(E5 l f s)[k]? = some p→Xk l s p=(E5 l f s)[k+1]?
 | 0,s,h,k,p,hk=>by
   have he:epsI l s=[]:=List.eq_nil_iff_forall_not_mem.2 fun i hi=>by
     have:=h [i] ⟨hi,trivial⟩;simp at this
   cases k with
   | zero =>
     simp only[E5,List.getElem?_cons_zero,Option.some.injEq] at hk;subst hk;simp[Xk,he,Dg,E5]
   | succ k=>simp[E5] at hk
 | f+1,s,h,k,p,hk=>by
   have key:∀ (E2 E1:List Nat),E1++E2=epsI l s→∀ (k:Nat) (p:List Nat),(E2.flatMap fun i=>(E5 l f (nth l i).to_).map (i::·))[k]? = some p→Xk l s p=(E2.flatMap fun i=>(E5 l f (nth l i).to_).map (i::·))[k+1]? := fun E2=>by
     induction E2 with
     | nil=>intro E1 _ k p hk;simp at hk
     | cons i E2 ih =>
       intro E1 hE k p hk;have hi:i∈epsI l s:=by rw[←hE];simp
       have hb:∀ p,okP l (nth l i).to_ p→p.length≤f:=fun p hp=>by
         have:=h (i::p) ⟨hi,hp⟩;simpa using this
       have hsort:=R5 l s;rw[←hE] at hsort;have hnext:=z3y hsort;rw[hE] at hnext;rw[List.flatMap_cons] at hk ⊢;generalize hA:(E5 l f (nth l i).to_).map (i::·)=A at *;have hAl:A.length=(E5 l f (nth l i).to_).length:=by rw[←hA];simp
       rcases Nat.lt_or_ge k A.length with hkl|hkl
       · rw[List.getElem?_append_left hkl] at hk
         rw[←hA,List.getElem?_map] at hk;obtain⟨q,hq,rfl⟩:=Option.map_eq_some_iff.1 hk;have hs:=z0m f (nth l i).to_ hb k q hq;rw[Xk,hs];rcases Nat.lt_or_ge (k+1) A.length with hk2|hk2
         · rw[List.getElem?_append_left hk2,←hA,List.getElem?_map]
           have:k+1<(E5 l f (nth l i).to_).length:=by omega
           simp[this]
         · have:(E5 l f (nth l i).to_).length≤k+1:=by omega
           rw[List.getElem?_eq_none this,List.getElem?_append_right (by omega),show k+1-A.length=0 by omega];simp only;rw[hnext];cases E2 with
           | nil=>simp
           | cons j E2 =>
             obtain⟨r,hr⟩:=Kd l f (nth l j).to_;simp[List.flatMap_cons,hr]
       · rw[List.getElem?_append_right hkl] at hk
         rw[List.getElem?_append_right (by omega)];have:=ih (E1++[i]) (by rw[←hE];simp) (k-A.length) p hk;rw[this,show k-A.length+1=k+1-A.length by omega]
   rw[E5] at hk ⊢;cases k with
   | zero =>
     simp only[List.getElem?_cons_zero,Option.some.injEq] at hk;subst hk;rw[Xk,z3x,List.getElem?_cons_succ];cases hE:epsI l s with
     | nil=>simp
     | cons j E2 =>
       obtain⟨r,hr⟩:=Kd l f (nth l j).to_;simp[List.flatMap_cons,hr]
   | succ k =>
     rw[List.getElem?_cons_succ] at hk;rw[List.getElem?_cons_succ];exact key (epsI l s) [] rfl k p hk
def outP (l:List Rule) (p:List Nat):List Term:=p.flatMap fun i=>(nth l i).out
def wayL (l:List Rule) (n:Nat) (s:Int) (out:List Term):List (Int × List Term):=(D2 l n s).map fun p=>(endP l s p,out++outP l p)
theorem zpz {l:List Rule} {n:Nat} (hl:∀ r∈l,(0≤r.from_∧r.from_<n)∧0≤r.to_∧r.to_<n) (hc:¬cycP l n) {s:Int} (hs:0≤s) (out:List Term) :
   wayL l n s out=(s,out)::(epsI l s).flatMap fun i=>wayL l n (nth l i).to_ (out++(nth l i).out):=by
 rw[wayL,zk8 hl hc hs,List.map_cons,List.map_flatMap];simp only[endP,outP,List.flatMap_nil,List.append_nil];congr 1
 have e:∀ i,(List.map (fun p=>(endP l s p,out++List.flatMap (fun i=>(nth l i).out) p)) ((D2 l n (nth l i).to_).map (i::·)))=wayL l n (nth l i).to_ (out++(nth l i).out):=fun i=>by
   rw[wayL,List.map_map];refine List.map_congr_left fun p _=>?_;simp[endP,outP,List.append_assoc]
 simp only[e]
def Ns (l:List Rule) (s:Int) (now:List Nat):Nat→Option (List Nat)
 | 0=>none
 | k+1=>match Dg (epsI l (endP l s (now.take k))) (nth now k+1) with
   | some j=>some (now.take k++[j])
   | none=>Ns l s now k
def zan (l:List Rule) (s:Int) (now:List Nat):Option (List Nat):=match Dg (epsI l (endP l s now)) 0 with
 | some j=>some (now++[j])
 | none=>Ns l s now now.length
theorem Ux (l:List Rule) (s:Int) (i:Nat) (p:List Nat):∀ k,Ns l s (i::p) (k+1)=match Ns l (nth l i).to_ p k with
   | some q=>some (i::q)
   | none=>(Dg (epsI l s) (i+1)).map fun j=>[j]
 | 0=>by
   simp only[Ns,List.take_zero,endP,zhw,List.nil_append];cases Dg (epsI l s) (i+1)<;>rfl
 | k+1=>by
   rw[Ns,List.take_succ_cons,endP,zhx,Ux l s i p k];rw[show Ns l (nth l i).to_ p (k+1)=match Dg (epsI l (endP l (nth l i).to_ (p.take k))) (nth p k+1) with|some j=>some (p.take k++[j])|none=>Ns l (nth l i).to_ p k from rfl];cases Dg (epsI l (endP l (nth l i).to_ (p.take k))) (nth p k+1)<;>rfl
theorem z0n (l:List Rule):∀ (p:List Nat) (s:Int),Xk l s p=zan l s p
 | [],s=>by
   simp only[Xk,zan,endP,List.nil_append];cases Dg (epsI l s) 0<;>rfl
 | i::p,s=>by
   rw[Xk,z0n l p,zan,zan,endP,List.length_cons,Ux];cases Dg (epsI l (endP l (nth l i).to_ p)) 0 with
   | some j=>rfl
   | none=>cases Ns l (nth l i).to_ p p.length<;>rfl
theorem zk9 {l:List Rule} {n:Nat} (hl:∀ r∈l,(0≤r.from_∧r.from_<n)∧0≤r.to_∧r.to_<n) (hc:¬cycP l n) {s:Int} (hs:0≤s) {k:Nat} {p:List Nat} (h:(D2 l n s)[k]? = some p):zan l s p=(D2 l n s)[k+1]? := by
 rw[←z0n];exact z0m (n+1) s (fun p hp=>z3w hl hc hs hp) k p h
theorem z7c (l:List Rule) (n:Nat) (s:Int):0<(D2 l n s).length:=by
 obtain⟨r,hr⟩:=Kd l (n+1) s;rw[D2,hr];simp
theorem zao (l:List Rule) (n:Nat) (s:Int):(D2 l n s)[0]? = some []:=by
 obtain⟨r,hr⟩:=Kd l (n+1) s;rw[D2,hr];rfl
theorem Xl {l:List Rule} {n:Nat} (hl:∀ r∈l,(0≤r.from_∧r.from_<n)∧0≤r.to_∧r.to_<n) (hc:¬cycP l n) {s:Int} (hs:0≤s) {p:List Nat} (hp:p∈D2 l n s):p.length≤n+1∧okP l s p:=by
 have:=z7b (n+1) s p hp;exact⟨z3w hl hc hs this,this⟩
theorem z3z {l:List Rule}:∀ {s:Int} {p:List Nat},okP l s p→∀ i∈p,i<l.length∧Cf (nth l i)=true
 | s,[],_,i,hi=>by simp at hi
 | s,j::p,h,i,hi=>by
   rcases List.mem_cons.1 hi with rfl|hi
   · have:=F2.1 h.1;exact⟨this.1,this.2.1⟩
   · exact z3z h.2 i hi
theorem Xm {l:List Rule} {n:Nat} (hl:∀ r∈l,(0≤r.from_∧r.from_<n)∧0≤r.to_∧r.to_<n):∀ {s:Int} {p:List Nat},0≤s∧s<n→okP l s p→0≤endP l s p∧endP l s p<n
 | s,[],h,_=>h
 | s,i::p,_,h=>Xm (s:=(nth l i).to_) (p:=p) hl (hl _ (Ao (F2.1 h.1).1)).2 h.2
theorem z7d (l:List Rule):∀ (s:Int) (p q:List Nat),endP l s (p++q)=endP l (endP l s p) q
 | s,[],q=>rfl
 | s,i::p,q=>z7d l _ p q
def cumW (l:List Rule) (n k:Nat):Nat:=((List.range k).map fun s:Nat=>(D2 l n s).length).foldl (·+·) 0
theorem Jg (l:List Rule) (n:Nat):cumW l n 0=0:=rfl
theorem Hl (l:List Rule) (n k:Nat):cumW l n (k+1)=cumW l n k+(D2 l n k).length:=by
 simp[cumW,List.range_succ,List.map_append,List.foldl_append]
theorem Jh (l:List Rule) (n:Nat) {k m:Nat} (h:k≤m):cumW l n k≤cumW l n m:=by
 induction h with
 | refl=>exact Nat.le_refl _
 | step _ ih=>rw[Hl];omega
section
variable {α:Type} (w:Nat) (e:α→AV)
def gG (v:Nat) (l:List α):Grp:=⟨w,v,l.isEmpty,l.map e⟩
def fF (n:Nat) (V:Nat→Nat) (D:Nat→List α):List Grp:=(List.range n).map fun i=>gG w e (V i) (D i)
def fT (o n:Nat) (V:Nat→Nat) (D:Nat→List α):List AV:=(List.range n).map fun i=>AV.ref (i+o) (V i) 0 (D i).length
def fD (n:Nat) (D:Nat→List α):List AV:=(List.range n).map fun i=>AV.lst w ((D i).map e)
def setD (D:Nat→List α) (i:Nat) (l:List α) (p:Nat):List α:=if p=i then l else D p
variable {w e} {n o i:Nat} {V:Nat→Nat} {D:Nat→List α}
theorem Ji:(fF w e n V D).length=n:=by simp[fF]
theorem z7e:(fT o n V D).length=n:=by simp[fT]
theorem z0o:(fD w e n D).length=n:=by simp[fD]
theorem z0p (h:i<n):(fF w e n V D).getD i default=gG w e (V i) (D i):=Cg h
theorem zka {z:AV} (h:i<n):(fT o n V D).getD i z=.ref (i+o) (V i) 0 (D i).length:=Cg h
theorem zf6 {z:AV} (h:i<n):(fD w e n D).getD i z=.lst w ((D i).map e):=Cg h
theorem z0q (h:i<n):(fD w e n D)[i]? = some (.lst w ((D i).map e)):=by simp[fD,h]
theorem Ef (he:∀ x,(e x).pure=true) (l:List α):Aw (l.map e)=true:=Bv.2 fun x hx=>by
 obtain⟨y,_,rfl⟩:=List.mem_map.1 hx;exact he y
theorem Jj (he:∀ x,(e x).pure=true):Aw (fD w e n D)=true:=Bv.2 fun x hx=>by
 obtain⟨i,_,rfl⟩:=List.mem_map.1 hx;exact Ef he _
theorem z7f {l:List α} (h:i<n):(fT o n V D).set i (.ref (i+o) (V i+1) 0 l.length)=fT o n (setV V i (V i+1)) (setD D i l):=by
 rw[fT,Ee h,fT];refine List.map_congr_left fun j _=>?_;by_cases hj:j=i
 · subst hj;simp[setV,setD]
 · simp[setV,setD,hj]
theorem z7g {l:List α} (hl:l≠[]) (h:i<n):(fF w e n V D).set i ⟨w,V i+1,false,l.map e⟩=fF w e n (setV V i (V i+1)) (setD D i l):=by
 rw[fF,Ee h,fF];refine List.map_congr_left fun j _=>?_;by_cases hj:j=i
 · subst hj
   cases l with
   | nil=>exact absurd rfl hl
   | cons a l=>simp[setV,setD,gG]
 · simp[setV,setD,hj,gG]
theorem zkb (l:List α):(!l.isEmpty||(l.map e).isEmpty)=true:=by cases l<;>rfl
theorem zf7 {F R:List Grp} (hF:F.length=n) (h:i<n):(F++R).getD i default=F.getD i default:=by
 rw[List.getD_eq_getElem?_getD,List.getElem?_append_left (by omega),←List.getD_eq_getElem?_getD]
theorem zq0 {F R:List Grp} (hF:F.length=n) (k:Nat):(F++R).getD (n+k) default=R.getD k default:=by
 rw[List.getD_eq_getElem?_getD,List.getElem?_append_right (by omega),←List.getD_eq_getElem?_getD];congr 1;omega
theorem H8 {F R:List Grp} (hF:F.length=n):(F++R).getD n default=R.getD 0 default:=by
 have:=zq0 (R:=R) hF 0;simpa using this
theorem Xn {G:Grp}:∀ {F R:List Grp} {i:Nat},i<F.length→setQ (F++R) i G=some (F.set i G++R)
 | [],_,_,h=>by simp at h
 | a::F,R,0,h=>rfl
 | a::F,R,i+1,h=>by rw[List.cons_append,setQ,Xn (by simpa using h)];rfl
theorem z7h {G:Grp}:∀ {F:List Grp} {i:Nat},i<F.length→setQ F i G=some (F.set i G)
 | [],_,h=>by simp at h
 | a::F,0,h=>rfl
 | a::F,i+1,h=>by rw[setQ,z7h (by simpa using h)];rfl
theorem z7i {G:Grp}:∀ (F R:List Grp) {n:Nat} (k:Nat),F.length=n→setQ (F++R) (n+k) G=(setQ R k G).map (F++·)
 | [],R,n,k,h=>by
   obtain rfl:n=0:=by simpa using h.symm
   rw[Nat.zero_add,List.nil_append];cases setQ R k G<;>rfl
 | a::F,R,n,k,h=>by
   obtain⟨m,rfl⟩:∃ m,n=m+1:=⟨n-1,by simp at h;omega⟩;rw[show m+1+k=m+k+1 by omega,List.cons_append,setQ,z7i F R k (by simpa using h)];cases setQ R k G<;>rfl
theorem Mv {G:Grp} (F R:List Grp) {n:Nat} (h:F.length=n):setQ (F++R) n G=(setQ R 0 G).map (F++·):=by
 have:=z7i (G:=G) F R 0 h;simpa using this
theorem Xo {ks:List Nat} {F R:List Grp} {G:Grp} {p i:Nat} (hi:i<F.length) (h:p+i∈ks):B7 p ks (F++R) (F.set i G++R):=by
 rw[←List.set_append_left _ _ hi];exact H6 h
theorem zu3:fF w e n (fun _=>1) (fun _=>[])=(List.replicate n w).map Io:=by
 rw[List.map_replicate];refine List.ext_getElem (by simp[fF]) fun i h1 h2=>?_;simp only[fF,List.getElem_map,List.getElem_range,List.getElem_replicate];rfl
theorem zq1 {l:List Grp} {o n:Nat} (hw:0<w) (h:∀ i,i<n→l.getD (i+o) default=Io w∧i+o<l.length):leSL l (List.replicate n .nilS) (fT o n (fun _=>1) fun _=>([]:List α)):=by
 have key:∀ idx:List Nat,(∀ i∈idx,i<n)→leSL l (List.replicate idx.length .nilS) (idx.map fun i=>AV.ref (i+o) 1 0 0):=fun idx=>by
   induction idx with
   | nil=>exact fun _=>rfl
   | cons i idx ih =>
     intro hi;obtain⟨h1,h2⟩:=h i (hi i (by simp));refine⟨?_,ih fun j hj=>hi j (by simp[hj])⟩;show 0=0∧0=0∧(l.getD (i+o) default).ver=1∧0<(l.getD (i+o) default).w∧(l.getD (i+o) default).xs=[]∧(l.getD (i+o) default).exact=true∧i+o<l.length;rw[h1];exact⟨rfl,rfl,rfl,hw,rfl,rfl,h2⟩
 have:=key (List.range n) fun i hi=>by simpa using hi
 rwa [List.length_range] at this
theorem z7j {m o:Nat} (h:n+o≤m):ltL m (fT o n V D):=by
 have key:∀ (l:List Nat),(∀ i∈l,i<n)→ltL m (l.map fun i=>AV.ref (i+o) (V i) 0 (D i).length):=fun l=>by
   induction l with
   | nil=>exact fun _=>trivial
   | cons i l ih =>
     intro h';exact⟨by have:=h' i (by simp);show i+o<_;omega,ih fun j hj=>h' j (by simp[hj])⟩
 exact key _ fun i hi=>by simpa using hi
theorem z7k {m:Nat} (he:∀ x,(e x).pure=true):∀ G∈fF w e n V D,ltL m G.xs:=fun G hG=>by
 obtain⟨i,_,rfl⟩:=List.mem_map.1 hG;exact C9 _ _ (Ef he _)
theorem Uy (l0:List Grp) {G':Grp}:∀ {l:List Grp} {t:Nat},t<l.length→zch l0 (l.getD t default) G'→Ic l0 l (l.set t G')
 | [],_,h,_=>by simp at h
 | a::l,0,_,h=>⟨h,Li l0 l⟩
 | a::l,t+1,hl,h=>⟨⟨rfl,rfl,id,A7 _ _⟩,Uy l0 (by simpa using hl) (by simpa using h)⟩
theorem Xp {m b t v:Nat} {env:Env} {l:List Grp} {ex:Bool} (hw:0<w) (ht:t<l.length) (hg:l.getD t default=⟨1,v,ex,List.replicate n .nilS⟩) :
   Ent m b env (Abs.hl l) env (Abs.hl (l.set t ⟨1,v,ex,fT l.length n (fun _=>1) fun _=>([]:List α)⟩++fF w e n (fun _=>1) fun _=>[])):=by
 refine (z6l (List.replicate n w) (fun x hx=>by have:=(List.mem_replicate.1 hx).2;omega)).trans (zln ?_ fun i _=>Hv _ _);rw[zu3,←List.set_append_left _ _ ht];refine Uy _ (by simp;omega) ?_;rw[List.getD_eq_getElem?_getD,List.getElem?_append_left ht,←List.getD_eq_getElem?_getD,hg];refine⟨rfl,rfl,id,zq1 hw fun i hi=>⟨?_,by simp;omega⟩⟩;rw[List.getD_eq_getElem?_getD,List.getElem?_append_right (by omega),List.map_replicate];simp[hi]
def fKs (t o n:Nat):List Nat:=t::(List.range n).map (·+o)
theorem z40 {t i:Nat} (h:i<n):i+o∈fKs t o n:=List.mem_cons.2 (.inr (List.mem_map.2 ⟨i,List.mem_range.2 h,rfl⟩))
theorem Nt {t g:Nat} (h:g≠t) (h2:g<o∨o+n≤g):g∉fKs t o n:=fun hh=>by
 rcases List.mem_cons.1 hh with hh|hh
 · exact h hh
 · obtain⟨i,hi,rfl⟩:=List.mem_map.1 hh
   have:=List.mem_range.1 hi;omega
theorem z41 {H:Ac} {t v:Nat} (hw:0<w) (he:∀ x,(e x).pure=true) (h1:H.at_ t=⟨1,v,true,fT o n V D⟩) (h2:∀ i,i<n→H.at_ (i+o)=gG w e (V i) (D i)) :
   Cn 2 (H.only (fKs t o n)) (.ref t v 0 n)∧frzV 2 (H.only (fKs t o n)) (.ref t v 0 n)=.lst 1 (fD w e n D):=by
 have hat1:(H.only (fKs t o n)).at_ t=⟨1,v,true,fT o n V D⟩:=by
   show (if t∈fKs t o n then H.at_ t else (H.at_ t).dead)=_;rw[if_pos (by simp[fKs]),h1]
 have hat:∀ i,i<n→(H.only (fKs t o n)).at_ (i+o)=gG w e (V i) (D i):=fun i hi=>by
   show (if i+o∈fKs t o n then H.at_ (i+o) else (H.at_ (i+o)).dead)=_;rw[if_pos (z40 hi),h2 i hi]
 have htl:(((fT o n V D).drop 0).take n)=fT o n V D:=by
   rw[List.drop_zero];exact List.take_of_length_le (by simp[fT])
 have hz:∀ x,frzV 0 (H.only (fKs t o n)) x=x:=fun x=>rfl;constructor
 · refine⟨by rw[hat1],by rw[hat1];exact Nat.one_pos,by rw[hat1];simp[fT],fun y hy=>?_⟩
   rw[hat1,htl] at hy;obtain⟨i,hi,rfl⟩:=List.mem_map.1 hy;have hi':i<n:=by simpa using hi
   refine⟨by rw[hat i hi'];rfl,by rw[hat i hi'];exact hw,by rw[hat i hi'];simp[gG],fun z hz=>?_⟩;rw[hat i hi'] at hz;obtain⟨u,_,rfl⟩:=List.mem_map.1 (List.mem_of_mem_drop (List.mem_of_mem_take hz));exact he u
 · show AV.lst _ _=_
   rw[hat1,htl,fT,List.map_map];congr 1;refine List.map_congr_left fun i hi=>?_;have hi':i<n:=by simpa using hi
   show AV.lst _ _=_;rw[hat i hi']
   have e1:(((gG w e (V i) (D i)).xs.drop 0).take (D i).length).map (frzV 0 (H.only (fKs t o n)))=(D i).map e:=by
     rw[List.drop_zero,List.take_of_length_le (by simp[gG])];refine (List.map_congr_left fun x hx=>?_).trans (List.map_id _);exact hz x
   rw[e1];rfl
theorem z0r {F:List Grp} {t o:Nat}:∀ {i:Nat},(∀ j,j<F.length→i+j∈fKs t o n)→Es i (fKs t o n) F=F.map Grp.dead:=by
 induction F with
 | nil=>intro i _;rfl
 | cons G F ih =>
   intro i h
   rw[Es,if_pos (by have:=h 0 (by simp);simpa using this),List.map_cons,ih fun j hj=>by
     have:=h (j+1) (by simpa using hj)
     rwa [show i+1+j=i+(j+1) by omega]]
end
def z7l (m:Nat) (env:Env):List (Nat × AV)→Prop
 | []=>True
 | (t,y)::r=>env t=y∧ltV m y∧z7l m env r
theorem Uz {m:Nat} {env:Env}:∀ {L:List (Nat × AV)},z7l m env L→∀ p∈L,env p.1=p.2
 | [],_,p,hp=>by cases hp
 | (t,y)::r,h,p,hp=>by
   rcases List.mem_cons.1 hp with rfl|hp
   · exact h.1
   · exact Uz h.2.2 p hp
theorem z0s {m:Nat} {env:Env}:∀ {L:List (Nat × AV)},z7l m env L→∀ i,ltV m (C8 L i)
 | [],_,i=>trivial
 | (t,y)::r,h,i=>by
   show ltV m (if i=t then y else C8 r i);split
   · exact h.2.1
   · exact z0s h.2.2 i
theorem Gi {n b:Nat} {env:Env} {l l0 gar:List Grp} (L:List (Nat × AV)) (hl':l=l0++gar) (hb:b≤l0.length) (hcl:∀ G∈l0,ltL l0.length G.xs) (hL:z7l l0.length env L):Ent n b env (Abs.hl l) (C8 L) (Abs.hl l0):=by
 subst hl';exact (J5 L (Uz hL)).trans (Ww hb hcl fun i _=>z0s hL i)
theorem zap {P:Program} {f:Nat} {xs:List AV} {l:List Grp} {K:AV→Ac→Prop} (h:Bi P f xs (Abs.hl l) (fun y H'=>∃ y' H'',Ent 1 l.length (fun _=>y) H' (fun _=>y') H''∧K y' H'')):Bi P f xs (Abs.hl l) K :=
 ⟨h.1,fun S cargs hS hx=>(h.2 S cargs hS hx).mono fun e w' hh=>by
   obtain⟨v,S1,y,H',he,hw,ev,hS1,hv,y',H'',h1,h2⟩:=hh;have hn:S.n=l.length:=hS.n;obtain⟨S2,q1,q2,q3,q4⟩:=h1 S1 (fun _=>v) (by rw[←hn];exact ev.n) hS1 (fun i _=>hv);have hb:=(ev.down (b:=l.length) (by omega)).trans q2
   exact⟨v,S2,y',_,he,q1.trans hw,⟨hb.base,hb.os,hb.tape,hb.output,hb.size,hb.kept,hb.im,hb.keep,hb.fresh,by rw[hn];exact hb.n,fun g hg=>hb.cur g (by omega),fun g hg=>hb.same g (by omega)⟩,q3,q4 0 Nat.one_pos,h2⟩⟩
theorem zkc {b:Nat} {y:AV} {l l0 gar:List Grp} (hl':l=l0++gar) (hb:b≤l0.length) (hcl:∀ G∈l0,ltL l0.length G.xs) (hy:ltV l0.length y):Ent 1 b (fun _=>y) (Abs.hl l) (fun _=>y) (Abs.hl l0):=by
 subst hl';exact Ww hb hcl fun i _=>hy
theorem zlu {P:Program} {f:Nat} {xs:List AV} {l l0 extra:List Grp} {K0 K:AV→Ac→Prop} (hl':l=l0++extra) (h:Bi P f xs (Abs.hl l0) K0) (hlt:ltL l0.length xs) (hltG:∀ G∈l0,ltL l0.length G.xs)
   (hK:∀ y H',K0 y H'→∃ l',H'=Abs.hl l'∧l'.length=l0.length∧ltV l0.length y∧(∀ G∈l',ltL l0.length G.xs)∧@nx y (Abs.hl (l'++extra)) ⟨K⟩):@Vw P f xs (Abs.hl l) ⟨K⟩:=by
 subst hl';exact ze8 h hlt hltG hK
inductive Reach (E:List (Int × Int)) (F:List Int):Int→Prop where
 | base {s:Int}:s∈F→Reach E F s
 | step {s t:Int}:Reach E F s→(s,t)∈E→Reach E F t
noncomputable def z7m (E:List (Int × Int)) (F:List Int) (i:Nat):Bool:=@decide (Reach E F i) (Classical.propDecidable _)
structure InR (n:Nat) (F:List Int) (E:List (Int × Int)):Prop where
 f:∀ s∈F,0≤s∧s<n
 e:∀ e∈E,(0≤e.1∧e.1<n)∧0≤e.2∧e.2<n
theorem Reach.rng {n:Nat} {F:List Int} {E:List (Int × Int)} (h:InR n F E) {s:Int} (hs:Reach E F s):0≤s∧s<n:=by
 cases hs with
 | base h1=>exact h.f _ h1
 | step _ h1=>exact (h.e _ h1).2
structure SpInv (n:Nat) (F:List Int) (E:List (Int × Int)) (on:Nat→Bool) (todo:List Int):Prop where
 r1:∀ s∈todo,Reach E F s
 r2:∀ i:Nat,on i=true→Reach E F i
 base:∀ s∈F,on s.toNat=true∨s∈todo
 step:∀ i:Nat,on i=true→∀ t,((i:Int),t)∈E→on t.toNat=true∨t∈todo
def setB (on:Nat→Bool) (s:Nat) (j:Nat):Bool:=if j=s then true else on j
theorem zkd {P:Program} {f m np:Nat} {xs:List AV} {y:AV} {res:List ARes} {B:AC} (hf:As P f xs.length=some ⟨m,np,res,B⟩) (h:T P m 0 B (entry xs) (Abs.hl []) (Ret P res fun z H=>Cn 4 H z∧ansW (frzV 4 H z) y)):PC P f xs y:=by
 refine zqz hf 4 ?_;rw[z5g];exact T.mono h fun x env H hh=>z5f (fun z H hh=>⟨hh.1,zkz hh.2⟩) hh
noncomputable def zlv (n:Nat) (F:List Int) (E:List (Int × Int)):List Bool:=(List.range n).map (z7m E F)
end Go.Proofs.YtbcjoeadpjfcfaaGreat
