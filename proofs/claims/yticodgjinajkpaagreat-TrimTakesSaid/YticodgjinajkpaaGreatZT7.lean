/-
  Parts of the proof that the law holds whatever the input; without conditions.
-/
import Derived.Test.YticodgjinajkpaaGreatZT6
import Derived.Test.YticodgjinajkpaaGreatZT3
import Derived.Test.YticodgjinajkpaaGreatZT5
set_option linter.unusedSimpArgs false
set_option linter.unusedVariables false
namespace Go.Proofs.YticodgjinajkpaaGreat
open Abs
theorem z89 (bs dr tk up sm:Int) (p0 p1 p2 p3:Part) (sets:List (List Span)) (hs:B5 sm=true) (hS:Cm [p0,p1,p2,p3] sets) (e1:p1.at_=p0.at_) (e2:p2.at_=p0.at_) (e3:p3.at_=p0.at_) :
   PC Tryz.prog 148 [Bv ⟨bs,dr,tk,up,sm,[p0,p1,p2,p3]⟩,Ak sets] (.tup [Ad (A8 ⟨bs,dr,tk,up,sm,[p0,p1,p2,p3]⟩ sets),.bool (B8 (A8 ⟨bs,dr,tk,up,sm,[p0,p1,p2,p3]⟩ sets))]):=by
 have hg:=Ae sets
 have b0:=Ai (hS.parts p0 (by simp))
 have b1:=Ai (hS.parts p1 (by simp))
 have b2:=Ai (hS.parts p2 (by simp))
 have b3:=Ai (hS.parts p3 (by simp))
 have A0:=Cu hs
 obtain ⟨T1,P1,A1⟩:=Al (a:=p0.at_) hS A0 (by omega) (by simp)
 have l1:atL [p0,p1,p2,p3] p0.at_=[p0,p1,p2,p3]:=by simp [atL,e1,e2,e3]
 rw [l1] at T1 P1
 have hv:A8 ⟨bs,dr,tk,up,sm,[p0,p1,p2,p3]⟩ sets=Bc [p0,p1,p2,p3] sets ([⟨sm,sm⟩]) p0.at_:=by simp [A8,B7,B4,e1,e2,e3]
 rw [hv]
 generalize ho1:Bc [p0,p1,p2,p3] sets ([⟨sm,sm⟩]) p0.at_=o1 at *
 generalize ht1:togL [p0,p1,p2,p3] (nth sets p0.at_.toNat)=t1 at *
 have hF:=Bm o1 (by have:=A1.2;omega)
 have hL:=Bw o1 (by have:=A1.2;omega)
 clear hS hv ho1 ht1 l1
 refine A9 A7 ?_
 unfold A5
 (repeat' (first|(simp (disch:=omega) only [push_cast,↓zz,seval])|(with_reducible first|refine And.intro ?_ ?_|(first|refine Ab ?_ ?_|refine Aa ?_ ?_)<;>intro hc<;>(try simp only [push_cast] at hc))|omega|with_reducible intro _))
 refine Ba 6 ?_
 (repeat' (first|(simp (disch:=omega) only [push_cast,↓zz,seval,xx,List.mem_cons,List.not_mem_nil,or_false,false_or,not_or,not_false_eq_true,true_or,or_true,Cb,setM,e1,e2,e3])|(with_reducible first|refine And.intro ?_ ?_|(first|refine Ab ?_ ?_|refine Aa ?_ ?_)<;>intro hc<;>(try simp only [push_cast] at hc))|((with_reducible refine Am ?_))|((with_reducible refine Cl [1,5] ?_))|omega|with_reducible intro _))
 refine Bl 6 (fun env=>[Aw 1 (env 6)]) [(1,Ak sets),(6,.map 0 1),(10,Ad [⟨sm,sm⟩]),(53,.lst 1 [.int .i64 p0.at_]),(54,.int .i64 1),(55,.int .i64 0)] [⟨0,1,true,[.int .i64 p0.at_,Be [p0,p1,p2,p3]]⟩] ?_ ?_
 · (repeat' (first|(simp (disch:=omega) only [push_cast,↓zz,seval,e1,e2,e3])|(with_reducible first|refine And.intro ?_ ?_|(first|refine Ab ?_ ?_|refine Aa ?_ ?_)<;>intro hc<;>(try simp only [push_cast] at hc))|omega|with_reducible intro _))
   all_goals (simp only [Ca,e1,e2,e3];done)
 (repeat' (first|(simp (disch:=omega) only [push_cast,↓zz,seval,Cb,B8,hg,e1,e2,e3])|(with_reducible first|refine And.intro ?_ ?_|(first|refine Ab ?_ ?_|refine Aa ?_ ?_)<;>intro hc<;>(try simp only [push_cast] at hc))|((with_reducible refine Am ?_))|(with_reducible first|refine eQ T1 ?_|refine eQ P1 ?_|refine eK hF ?_|refine eK hL ?_)|omega|with_reducible intro _))
 all_goals ((try simp only [*,decide_true,decide_false,Bool.true_and,Bool.false_and]);(repeat' (first|(simp (disch:=omega) only [push_cast,↓zz,seval,Bo])|omega|(with_reducible refine And.intro ?_ ?_))))
theorem z8a (bs dr tk up sm:Int) (p0 p1 p2 p3:Part) (sets:List (List Span)) (hs:B5 sm=true) (hS:Cm [p0,p1,p2,p3] sets) (e1:p1.at_=p0.at_) (e2:p2.at_=p0.at_) (n03:¬ p0.at_=p3.at_) :
   PC Tryz.prog 148 [Bv ⟨bs,dr,tk,up,sm,[p0,p1,p2,p3]⟩,Ak sets] (.tup [Ad (A8 ⟨bs,dr,tk,up,sm,[p0,p1,p2,p3]⟩ sets),.bool (B8 (A8 ⟨bs,dr,tk,up,sm,[p0,p1,p2,p3]⟩ sets))]):=by
 have hg:=Ae sets
 have b0:=Ai (hS.parts p0 (by simp))
 have b1:=Ai (hS.parts p1 (by simp))
 have b2:=Ai (hS.parts p2 (by simp))
 have b3:=Ai (hS.parts p3 (by simp))
 have A0:=Cu hs
 obtain ⟨T1,P1,A1⟩:=Al (a:=p0.at_) hS A0 (by omega) (by simp)
 have l1:atL [p0,p1,p2,p3] p0.at_=[p0,p1,p2]:=by simp [atL,e1,e2,n03,Ne.symm (show p0.at_ ≠ p3.at_ from n03)]
 rw [l1] at T1 P1
 obtain ⟨T2,P2,A2⟩:=Al (a:=p3.at_) hS A1 (by omega) (by simp)
 have l2:atL [p0,p1,p2,p3] p3.at_=[p3]:=by simp [atL,e1,e2,n03,Ne.symm (show p0.at_ ≠ p3.at_ from n03)]
 rw [l2] at T2 P2
 have hv:A8 ⟨bs,dr,tk,up,sm,[p0,p1,p2,p3]⟩ sets=Bc [p0,p1,p2,p3] sets (Bc [p0,p1,p2,p3] sets ([⟨sm,sm⟩]) p0.at_) p3.at_:=by simp [A8,B7,B4,e1,e2,n03,Ne.symm (show p0.at_ ≠ p3.at_ from n03)]
 rw [hv]
 generalize ho1:Bc [p0,p1,p2,p3] sets ([⟨sm,sm⟩]) p0.at_=o1 at *
 generalize ht1:togL [p0,p1,p2] (nth sets p0.at_.toNat)=t1 at *
 generalize ho2:Bc [p0,p1,p2,p3] sets (o1) p3.at_=o2 at *
 generalize ht2:togL [p3] (nth sets p3.at_.toNat)=t2 at *
 have hF:=Bm o2 (by have:=A2.2;omega)
 have hL:=Bw o2 (by have:=A2.2;omega)
 clear hS hv ho1 ht1 l1 ho2 ht2 l2
 refine A9 A7 ?_
 unfold A5
 (repeat' (first|(simp (disch:=omega) only [push_cast,↓zz,seval])|(with_reducible first|refine And.intro ?_ ?_|(first|refine Ab ?_ ?_|refine Aa ?_ ?_)<;>intro hc<;>(try simp only [push_cast] at hc))|omega|with_reducible intro _))
 refine Ba 6 ?_
 (repeat' (first|(simp (disch:=omega) only [push_cast,↓zz,seval,xx,List.mem_cons,List.not_mem_nil,or_false,false_or,not_or,not_false_eq_true,true_or,or_true,Cb,setM,e1,e2,n03])|(with_reducible first|refine And.intro ?_ ?_|(first|refine Ab ?_ ?_|refine Aa ?_ ?_)<;>intro hc<;>(try simp only [push_cast] at hc))|((with_reducible refine Am ?_))|((with_reducible refine Cl [1,5] ?_))|omega|with_reducible intro _))
 refine Bl 6 (fun env=>[Aw 1 (env 6)]) [(1,Ak sets),(6,.map 0 1),(10,Ad [⟨sm,sm⟩]),(53,.lst 1 [.int .i64 p0.at_,.int .i64 p3.at_]),(54,.int .i64 2),(55,.int .i64 0)] [⟨0,1,true,[.int .i64 p0.at_,Be [p0,p1,p2],.int .i64 p3.at_,Be [p3]]⟩] ?_ ?_
 · (repeat' (first|(simp (disch:=omega) only [push_cast,↓zz,seval,e1,e2,n03])|(with_reducible first|refine And.intro ?_ ?_|(first|refine Ab ?_ ?_|refine Aa ?_ ?_)<;>intro hc<;>(try simp only [push_cast] at hc))|omega|with_reducible intro _))
   all_goals (simp only [Ca,e1,e2,n03];done)
 (repeat' (first|(simp (disch:=omega) only [push_cast,↓zz,seval,Cb,B8,hg,e1,e2,n03])|(with_reducible first|refine And.intro ?_ ?_|(first|refine Ab ?_ ?_|refine Aa ?_ ?_)<;>intro hc<;>(try simp only [push_cast] at hc))|((with_reducible refine Am ?_))|(with_reducible first|refine eQ T1 ?_|refine eQ P1 ?_|refine eQ T2 ?_|refine eQ P2 ?_|refine eK hF ?_|refine eK hL ?_)|omega|with_reducible intro _))
 all_goals ((try simp only [*,decide_true,decide_false,Bool.true_and,Bool.false_and]);(repeat' (first|(simp (disch:=omega) only [push_cast,↓zz,seval,Bo])|omega|(with_reducible refine And.intro ?_ ?_))))
theorem z8b (bs dr tk up sm:Int) (p0 p1 p2 p3:Part) (sets:List (List Span)) (hs:B5 sm=true) (hS:Cm [p0,p1,p2,p3] sets) (e1:p1.at_=p0.at_) (e3:p3.at_=p0.at_) (n02:¬ p0.at_=p2.at_) :
   PC Tryz.prog 148 [Bv ⟨bs,dr,tk,up,sm,[p0,p1,p2,p3]⟩,Ak sets] (.tup [Ad (A8 ⟨bs,dr,tk,up,sm,[p0,p1,p2,p3]⟩ sets),.bool (B8 (A8 ⟨bs,dr,tk,up,sm,[p0,p1,p2,p3]⟩ sets))]):=by
 have hg:=Ae sets
 have b0:=Ai (hS.parts p0 (by simp))
 have b1:=Ai (hS.parts p1 (by simp))
 have b2:=Ai (hS.parts p2 (by simp))
 have b3:=Ai (hS.parts p3 (by simp))
 have A0:=Cu hs
 obtain ⟨T1,P1,A1⟩:=Al (a:=p0.at_) hS A0 (by omega) (by simp)
 have l1:atL [p0,p1,p2,p3] p0.at_=[p0,p1,p3]:=by simp [atL,e1,e3,n02,Ne.symm (show p0.at_ ≠ p2.at_ from n02)]
 rw [l1] at T1 P1
 obtain ⟨T2,P2,A2⟩:=Al (a:=p2.at_) hS A1 (by omega) (by simp)
 have l2:atL [p0,p1,p2,p3] p2.at_=[p2]:=by simp [atL,e1,e3,n02,Ne.symm (show p0.at_ ≠ p2.at_ from n02)]
 rw [l2] at T2 P2
 have hv:A8 ⟨bs,dr,tk,up,sm,[p0,p1,p2,p3]⟩ sets=Bc [p0,p1,p2,p3] sets (Bc [p0,p1,p2,p3] sets ([⟨sm,sm⟩]) p0.at_) p2.at_:=by simp [A8,B7,B4,e1,e3,n02,Ne.symm (show p0.at_ ≠ p2.at_ from n02)]
 rw [hv]
 generalize ho1:Bc [p0,p1,p2,p3] sets ([⟨sm,sm⟩]) p0.at_=o1 at *
 generalize ht1:togL [p0,p1,p3] (nth sets p0.at_.toNat)=t1 at *
 generalize ho2:Bc [p0,p1,p2,p3] sets (o1) p2.at_=o2 at *
 generalize ht2:togL [p2] (nth sets p2.at_.toNat)=t2 at *
 have hF:=Bm o2 (by have:=A2.2;omega)
 have hL:=Bw o2 (by have:=A2.2;omega)
 clear hS hv ho1 ht1 l1 ho2 ht2 l2
 refine A9 A7 ?_
 unfold A5
 (repeat' (first|(simp (disch:=omega) only [push_cast,↓zz,seval])|(with_reducible first|refine And.intro ?_ ?_|(first|refine Ab ?_ ?_|refine Aa ?_ ?_)<;>intro hc<;>(try simp only [push_cast] at hc))|omega|with_reducible intro _))
 refine Ba 6 ?_
 (repeat' (first|(simp (disch:=omega) only [push_cast,↓zz,seval,xx,List.mem_cons,List.not_mem_nil,or_false,false_or,not_or,not_false_eq_true,true_or,or_true,Cb,setM,e1,e3,n02])|(with_reducible first|refine And.intro ?_ ?_|(first|refine Ab ?_ ?_|refine Aa ?_ ?_)<;>intro hc<;>(try simp only [push_cast] at hc))|((with_reducible refine Am ?_))|((with_reducible refine Cl [1,5] ?_))|omega|with_reducible intro _))
 refine Bl 6 (fun env=>[Aw 1 (env 6)]) [(1,Ak sets),(6,.map 0 1),(10,Ad [⟨sm,sm⟩]),(53,.lst 1 [.int .i64 p0.at_,.int .i64 p2.at_]),(54,.int .i64 2),(55,.int .i64 0)] [⟨0,1,true,[.int .i64 p0.at_,Be [p0,p1,p3],.int .i64 p2.at_,Be [p2]]⟩] ?_ ?_
 · (repeat' (first|(simp (disch:=omega) only [push_cast,↓zz,seval,e1,e3,n02])|(with_reducible first|refine And.intro ?_ ?_|(first|refine Ab ?_ ?_|refine Aa ?_ ?_)<;>intro hc<;>(try simp only [push_cast] at hc))|omega|with_reducible intro _))
   all_goals (simp only [Ca,e1,e3,n02];done)
 (repeat' (first|(simp (disch:=omega) only [push_cast,↓zz,seval,Cb,B8,hg,e1,e3,n02])|(with_reducible first|refine And.intro ?_ ?_|(first|refine Ab ?_ ?_|refine Aa ?_ ?_)<;>intro hc<;>(try simp only [push_cast] at hc))|((with_reducible refine Am ?_))|(with_reducible first|refine eQ T1 ?_|refine eQ P1 ?_|refine eQ T2 ?_|refine eQ P2 ?_|refine eK hF ?_|refine eK hL ?_)|omega|with_reducible intro _))
 all_goals ((try simp only [*,decide_true,decide_false,Bool.true_and,Bool.false_and]);(repeat' (first|(simp (disch:=omega) only [push_cast,↓zz,seval,Bo])|omega|(with_reducible refine And.intro ?_ ?_))))
theorem z8c (bs dr tk up sm:Int) (p0 p1 p2 p3:Part) (sets:List (List Span)) (hs:B5 sm=true) (hS:Cm [p0,p1,p2,p3] sets) (e1:p1.at_=p0.at_) (e3:p3.at_=p2.at_) (n02:¬ p0.at_=p2.at_) :
   PC Tryz.prog 148 [Bv ⟨bs,dr,tk,up,sm,[p0,p1,p2,p3]⟩,Ak sets] (.tup [Ad (A8 ⟨bs,dr,tk,up,sm,[p0,p1,p2,p3]⟩ sets),.bool (B8 (A8 ⟨bs,dr,tk,up,sm,[p0,p1,p2,p3]⟩ sets))]):=by
 have hg:=Ae sets
 have b0:=Ai (hS.parts p0 (by simp))
 have b1:=Ai (hS.parts p1 (by simp))
 have b2:=Ai (hS.parts p2 (by simp))
 have b3:=Ai (hS.parts p3 (by simp))
 have A0:=Cu hs
 obtain ⟨T1,P1,A1⟩:=Al (a:=p0.at_) hS A0 (by omega) (by simp)
 have l1:atL [p0,p1,p2,p3] p0.at_=[p0,p1]:=by simp [atL,e1,e3,n02,Ne.symm (show p0.at_ ≠ p2.at_ from n02)]
 rw [l1] at T1 P1
 obtain ⟨T2,P2,A2⟩:=Al (a:=p2.at_) hS A1 (by omega) (by simp)
 have l2:atL [p0,p1,p2,p3] p2.at_=[p2,p3]:=by simp [atL,e1,e3,n02,Ne.symm (show p0.at_ ≠ p2.at_ from n02)]
 rw [l2] at T2 P2
 have hv:A8 ⟨bs,dr,tk,up,sm,[p0,p1,p2,p3]⟩ sets=Bc [p0,p1,p2,p3] sets (Bc [p0,p1,p2,p3] sets ([⟨sm,sm⟩]) p0.at_) p2.at_:=by simp [A8,B7,B4,e1,e3,n02,Ne.symm (show p0.at_ ≠ p2.at_ from n02)]
 rw [hv]
 generalize ho1:Bc [p0,p1,p2,p3] sets ([⟨sm,sm⟩]) p0.at_=o1 at *
 generalize ht1:togL [p0,p1] (nth sets p0.at_.toNat)=t1 at *
 generalize ho2:Bc [p0,p1,p2,p3] sets (o1) p2.at_=o2 at *
 generalize ht2:togL [p2,p3] (nth sets p2.at_.toNat)=t2 at *
 have hF:=Bm o2 (by have:=A2.2;omega)
 have hL:=Bw o2 (by have:=A2.2;omega)
 clear hS hv ho1 ht1 l1 ho2 ht2 l2
 refine A9 A7 ?_
 unfold A5
 (repeat' (first|(simp (disch:=omega) only [push_cast,↓zz,seval])|(with_reducible first|refine And.intro ?_ ?_|(first|refine Ab ?_ ?_|refine Aa ?_ ?_)<;>intro hc<;>(try simp only [push_cast] at hc))|omega|with_reducible intro _))
 refine Ba 6 ?_
 (repeat' (first|(simp (disch:=omega) only [push_cast,↓zz,seval,xx,List.mem_cons,List.not_mem_nil,or_false,false_or,not_or,not_false_eq_true,true_or,or_true,Cb,setM,e1,e3,n02])|(with_reducible first|refine And.intro ?_ ?_|(first|refine Ab ?_ ?_|refine Aa ?_ ?_)<;>intro hc<;>(try simp only [push_cast] at hc))|((with_reducible refine Am ?_))|((with_reducible refine Cl [1,5,9] ?_))|omega|with_reducible intro _))
 refine Bl 6 (fun env=>[Aw 1 (env 6)]) [(1,Ak sets),(6,.map 0 1),(10,Ad [⟨sm,sm⟩]),(53,.lst 1 [.int .i64 p0.at_,.int .i64 p2.at_]),(54,.int .i64 2),(55,.int .i64 0)] [⟨0,1,true,[.int .i64 p0.at_,Be [p0,p1],.int .i64 p2.at_,Be [p2,p3]]⟩] ?_ ?_
 · (repeat' (first|(simp (disch:=omega) only [push_cast,↓zz,seval,e1,e3,n02])|(with_reducible first|refine And.intro ?_ ?_|(first|refine Ab ?_ ?_|refine Aa ?_ ?_)<;>intro hc<;>(try simp only [push_cast] at hc))|omega|with_reducible intro _))
   all_goals (simp only [Ca,e1,e3,n02];done)
 (repeat' (first|(simp (disch:=omega) only [push_cast,↓zz,seval,Cb,B8,hg,e1,e3,n02])|(with_reducible first|refine And.intro ?_ ?_|(first|refine Ab ?_ ?_|refine Aa ?_ ?_)<;>intro hc<;>(try simp only [push_cast] at hc))|((with_reducible refine Am ?_))|(with_reducible first|refine eQ T1 ?_|refine eQ P1 ?_|refine eQ T2 ?_|refine eQ P2 ?_|refine eK hF ?_|refine eK hL ?_)|omega|with_reducible intro _))
 all_goals ((try simp only [*,decide_true,decide_false,Bool.true_and,Bool.false_and]);(repeat' (first|(simp (disch:=omega) only [push_cast,↓zz,seval,Bo])|omega|(with_reducible refine And.intro ?_ ?_))))
theorem z8d (bs dr tk up sm:Int) (p0 p1 p2 p3:Part) (sets:List (List Span)) (hs:B5 sm=true) (hS:Cm [p0,p1,p2,p3] sets) (e1:p1.at_=p0.at_) (n02:¬ p0.at_=p2.at_) (n03:¬ p0.at_=p3.at_) (n23:¬ p2.at_=p3.at_) :
   PC Tryz.prog 148 [Bv ⟨bs,dr,tk,up,sm,[p0,p1,p2,p3]⟩,Ak sets] (.tup [Ad (A8 ⟨bs,dr,tk,up,sm,[p0,p1,p2,p3]⟩ sets),.bool (B8 (A8 ⟨bs,dr,tk,up,sm,[p0,p1,p2,p3]⟩ sets))]):=by
 have hg:=Ae sets
 have b0:=Ai (hS.parts p0 (by simp))
 have b1:=Ai (hS.parts p1 (by simp))
 have b2:=Ai (hS.parts p2 (by simp))
 have b3:=Ai (hS.parts p3 (by simp))
 have A0:=Cu hs
 obtain ⟨T1,P1,A1⟩:=Al (a:=p0.at_) hS A0 (by omega) (by simp)
 have l1:atL [p0,p1,p2,p3] p0.at_=[p0,p1]:=by simp [atL,e1,n02,n03,n23,Ne.symm (show p0.at_ ≠ p2.at_ from n02),Ne.symm (show p0.at_ ≠ p3.at_ from n03),Ne.symm (show p2.at_ ≠ p3.at_ from n23)]
 rw [l1] at T1 P1
 obtain ⟨T2,P2,A2⟩:=Al (a:=p2.at_) hS A1 (by omega) (by simp)
 have l2:atL [p0,p1,p2,p3] p2.at_=[p2]:=by simp [atL,e1,n02,n03,n23,Ne.symm (show p0.at_ ≠ p2.at_ from n02),Ne.symm (show p0.at_ ≠ p3.at_ from n03),Ne.symm (show p2.at_ ≠ p3.at_ from n23)]
 rw [l2] at T2 P2
 obtain ⟨T3,P3,A3⟩:=Al (a:=p3.at_) hS A2 (by omega) (by simp)
 have l3:atL [p0,p1,p2,p3] p3.at_=[p3]:=by simp [atL,e1,n02,n03,n23,Ne.symm (show p0.at_ ≠ p2.at_ from n02),Ne.symm (show p0.at_ ≠ p3.at_ from n03),Ne.symm (show p2.at_ ≠ p3.at_ from n23)]
 rw [l3] at T3 P3
 have hv:A8 ⟨bs,dr,tk,up,sm,[p0,p1,p2,p3]⟩ sets=Bc [p0,p1,p2,p3] sets (Bc [p0,p1,p2,p3] sets (Bc [p0,p1,p2,p3] sets ([⟨sm,sm⟩]) p0.at_) p2.at_) p3.at_:=by simp [A8,B7,B4,e1,n02,n03,n23,Ne.symm (show p0.at_ ≠ p2.at_ from n02),Ne.symm (show p0.at_ ≠ p3.at_ from n03),Ne.symm (show p2.at_ ≠ p3.at_ from n23)]
 rw [hv]
 generalize ho1:Bc [p0,p1,p2,p3] sets ([⟨sm,sm⟩]) p0.at_=o1 at *
 generalize ht1:togL [p0,p1] (nth sets p0.at_.toNat)=t1 at *
 generalize ho2:Bc [p0,p1,p2,p3] sets (o1) p2.at_=o2 at *
 generalize ht2:togL [p2] (nth sets p2.at_.toNat)=t2 at *
 generalize ho3:Bc [p0,p1,p2,p3] sets (o2) p3.at_=o3 at *
 generalize ht3:togL [p3] (nth sets p3.at_.toNat)=t3 at *
 have hF:=Bm o3 (by have:=A3.2;omega)
 have hL:=Bw o3 (by have:=A3.2;omega)
 clear hS hv ho1 ht1 l1 ho2 ht2 l2 ho3 ht3 l3
 refine A9 A7 ?_
 unfold A5
 (repeat' (first|(simp (disch:=omega) only [push_cast,↓zz,seval])|(with_reducible first|refine And.intro ?_ ?_|(first|refine Ab ?_ ?_|refine Aa ?_ ?_)<;>intro hc<;>(try simp only [push_cast] at hc))|omega|with_reducible intro _))
 refine Ba 6 ?_
 (repeat' (first|(simp (disch:=omega) only [push_cast,↓zz,seval,xx,List.mem_cons,List.not_mem_nil,or_false,false_or,not_or,not_false_eq_true,true_or,or_true,Cb,setM,e1,n02,n03,n23])|(with_reducible first|refine And.intro ?_ ?_|(first|refine Ab ?_ ?_|refine Aa ?_ ?_)<;>intro hc<;>(try simp only [push_cast] at hc))|((with_reducible refine Am ?_))|((with_reducible refine Cl [1,5] ?_))|omega|with_reducible intro _))
 refine Bl 6 (fun env=>[Aw 1 (env 6)]) [(1,Ak sets),(6,.map 0 1),(10,Ad [⟨sm,sm⟩]),(53,.lst 1 [.int .i64 p0.at_,.int .i64 p2.at_,.int .i64 p3.at_]),(54,.int .i64 3),(55,.int .i64 0)] [⟨0,1,true,[.int .i64 p0.at_,Be [p0,p1],.int .i64 p2.at_,Be [p2],.int .i64 p3.at_,Be [p3]]⟩] ?_ ?_
 · (repeat' (first|(simp (disch:=omega) only [push_cast,↓zz,seval,e1,n02,n03,n23])|(with_reducible first|refine And.intro ?_ ?_|(first|refine Ab ?_ ?_|refine Aa ?_ ?_)<;>intro hc<;>(try simp only [push_cast] at hc))|omega|with_reducible intro _))
   all_goals (simp only [Ca,e1,n02,n03,n23];done)
 (repeat' (first|(simp (disch:=omega) only [push_cast,↓zz,seval,Cb,B8,hg,e1,n02,n03,n23])|(with_reducible first|refine And.intro ?_ ?_|(first|refine Ab ?_ ?_|refine Aa ?_ ?_)<;>intro hc<;>(try simp only [push_cast] at hc))|((with_reducible refine Am ?_))|(with_reducible first|refine eQ T1 ?_|refine eQ P1 ?_|refine eQ T2 ?_|refine eQ P2 ?_|refine eQ T3 ?_|refine eQ P3 ?_|refine eK hF ?_|refine eK hL ?_)|omega|with_reducible intro _))
 all_goals ((try simp only [*,decide_true,decide_false,Bool.true_and,Bool.false_and]);(repeat' (first|(simp (disch:=omega) only [push_cast,↓zz,seval,Bo])|omega|(with_reducible refine And.intro ?_ ?_))))
theorem z8e (bs dr tk up sm:Int) (p0 p1 p2 p3:Part) (sets:List (List Span)) (hs:B5 sm=true) (hS:Cm [p0,p1,p2,p3] sets) (e2:p2.at_=p0.at_) (e3:p3.at_=p0.at_) (n01:¬ p0.at_=p1.at_) :
   PC Tryz.prog 148 [Bv ⟨bs,dr,tk,up,sm,[p0,p1,p2,p3]⟩,Ak sets] (.tup [Ad (A8 ⟨bs,dr,tk,up,sm,[p0,p1,p2,p3]⟩ sets),.bool (B8 (A8 ⟨bs,dr,tk,up,sm,[p0,p1,p2,p3]⟩ sets))]):=by
 have hg:=Ae sets
 have b0:=Ai (hS.parts p0 (by simp))
 have b1:=Ai (hS.parts p1 (by simp))
 have b2:=Ai (hS.parts p2 (by simp))
 have b3:=Ai (hS.parts p3 (by simp))
 have A0:=Cu hs
 obtain ⟨T1,P1,A1⟩:=Al (a:=p0.at_) hS A0 (by omega) (by simp)
 have l1:atL [p0,p1,p2,p3] p0.at_=[p0,p2,p3]:=by simp [atL,e2,e3,n01,Ne.symm (show p0.at_ ≠ p1.at_ from n01)]
 rw [l1] at T1 P1
 obtain ⟨T2,P2,A2⟩:=Al (a:=p1.at_) hS A1 (by omega) (by simp)
 have l2:atL [p0,p1,p2,p3] p1.at_=[p1]:=by simp [atL,e2,e3,n01,Ne.symm (show p0.at_ ≠ p1.at_ from n01)]
 rw [l2] at T2 P2
 have hv:A8 ⟨bs,dr,tk,up,sm,[p0,p1,p2,p3]⟩ sets=Bc [p0,p1,p2,p3] sets (Bc [p0,p1,p2,p3] sets ([⟨sm,sm⟩]) p0.at_) p1.at_:=by simp [A8,B7,B4,e2,e3,n01,Ne.symm (show p0.at_ ≠ p1.at_ from n01)]
 rw [hv]
 generalize ho1:Bc [p0,p1,p2,p3] sets ([⟨sm,sm⟩]) p0.at_=o1 at *
 generalize ht1:togL [p0,p2,p3] (nth sets p0.at_.toNat)=t1 at *
 generalize ho2:Bc [p0,p1,p2,p3] sets (o1) p1.at_=o2 at *
 generalize ht2:togL [p1] (nth sets p1.at_.toNat)=t2 at *
 have hF:=Bm o2 (by have:=A2.2;omega)
 have hL:=Bw o2 (by have:=A2.2;omega)
 clear hS hv ho1 ht1 l1 ho2 ht2 l2
 refine A9 A7 ?_
 unfold A5
 (repeat' (first|(simp (disch:=omega) only [push_cast,↓zz,seval])|(with_reducible first|refine And.intro ?_ ?_|(first|refine Ab ?_ ?_|refine Aa ?_ ?_)<;>intro hc<;>(try simp only [push_cast] at hc))|omega|with_reducible intro _))
 refine Ba 6 ?_
 (repeat' (first|(simp (disch:=omega) only [push_cast,↓zz,seval,xx,List.mem_cons,List.not_mem_nil,or_false,false_or,not_or,not_false_eq_true,true_or,or_true,Cb,setM,e2,e3,n01])|(with_reducible first|refine And.intro ?_ ?_|(first|refine Ab ?_ ?_|refine Aa ?_ ?_)<;>intro hc<;>(try simp only [push_cast] at hc))|((with_reducible refine Am ?_))|((with_reducible refine Cl [1,5] ?_))|omega|with_reducible intro _))
 refine Bl 6 (fun env=>[Aw 1 (env 6)]) [(1,Ak sets),(6,.map 0 1),(10,Ad [⟨sm,sm⟩]),(53,.lst 1 [.int .i64 p0.at_,.int .i64 p1.at_]),(54,.int .i64 2),(55,.int .i64 0)] [⟨0,1,true,[.int .i64 p0.at_,Be [p0,p2,p3],.int .i64 p1.at_,Be [p1]]⟩] ?_ ?_
 · (repeat' (first|(simp (disch:=omega) only [push_cast,↓zz,seval,e2,e3,n01])|(with_reducible first|refine And.intro ?_ ?_|(first|refine Ab ?_ ?_|refine Aa ?_ ?_)<;>intro hc<;>(try simp only [push_cast] at hc))|omega|with_reducible intro _))
   all_goals (simp only [Ca,e2,e3,n01];done)
 (repeat' (first|(simp (disch:=omega) only [push_cast,↓zz,seval,Cb,B8,hg,e2,e3,n01])|(with_reducible first|refine And.intro ?_ ?_|(first|refine Ab ?_ ?_|refine Aa ?_ ?_)<;>intro hc<;>(try simp only [push_cast] at hc))|((with_reducible refine Am ?_))|(with_reducible first|refine eQ T1 ?_|refine eQ P1 ?_|refine eQ T2 ?_|refine eQ P2 ?_|refine eK hF ?_|refine eK hL ?_)|omega|with_reducible intro _))
 all_goals ((try simp only [*,decide_true,decide_false,Bool.true_and,Bool.false_and]);(repeat' (first|(simp (disch:=omega) only [push_cast,↓zz,seval,Bo])|omega|(with_reducible refine And.intro ?_ ?_))))
theorem z8f (bs dr tk up sm:Int) (p0 p1 p2 p3:Part) (sets:List (List Span)) (hs:B5 sm=true) (hS:Cm [p0,p1,p2,p3] sets) (e2:p2.at_=p0.at_) (e3:p3.at_=p1.at_) (n01:¬ p0.at_=p1.at_) :
   PC Tryz.prog 148 [Bv ⟨bs,dr,tk,up,sm,[p0,p1,p2,p3]⟩,Ak sets] (.tup [Ad (A8 ⟨bs,dr,tk,up,sm,[p0,p1,p2,p3]⟩ sets),.bool (B8 (A8 ⟨bs,dr,tk,up,sm,[p0,p1,p2,p3]⟩ sets))]):=by
 have hg:=Ae sets
 have b0:=Ai (hS.parts p0 (by simp))
 have b1:=Ai (hS.parts p1 (by simp))
 have b2:=Ai (hS.parts p2 (by simp))
 have b3:=Ai (hS.parts p3 (by simp))
 have A0:=Cu hs
 obtain ⟨T1,P1,A1⟩:=Al (a:=p0.at_) hS A0 (by omega) (by simp)
 have l1:atL [p0,p1,p2,p3] p0.at_=[p0,p2]:=by simp [atL,e2,e3,n01,Ne.symm (show p0.at_ ≠ p1.at_ from n01)]
 rw [l1] at T1 P1
 obtain ⟨T2,P2,A2⟩:=Al (a:=p1.at_) hS A1 (by omega) (by simp)
 have l2:atL [p0,p1,p2,p3] p1.at_=[p1,p3]:=by simp [atL,e2,e3,n01,Ne.symm (show p0.at_ ≠ p1.at_ from n01)]
 rw [l2] at T2 P2
 have hv:A8 ⟨bs,dr,tk,up,sm,[p0,p1,p2,p3]⟩ sets=Bc [p0,p1,p2,p3] sets (Bc [p0,p1,p2,p3] sets ([⟨sm,sm⟩]) p0.at_) p1.at_:=by simp [A8,B7,B4,e2,e3,n01,Ne.symm (show p0.at_ ≠ p1.at_ from n01)]
 rw [hv]
 generalize ho1:Bc [p0,p1,p2,p3] sets ([⟨sm,sm⟩]) p0.at_=o1 at *
 generalize ht1:togL [p0,p2] (nth sets p0.at_.toNat)=t1 at *
 generalize ho2:Bc [p0,p1,p2,p3] sets (o1) p1.at_=o2 at *
 generalize ht2:togL [p1,p3] (nth sets p1.at_.toNat)=t2 at *
 have hF:=Bm o2 (by have:=A2.2;omega)
 have hL:=Bw o2 (by have:=A2.2;omega)
 clear hS hv ho1 ht1 l1 ho2 ht2 l2
 refine A9 A7 ?_
 unfold A5
 (repeat' (first|(simp (disch:=omega) only [push_cast,↓zz,seval])|(with_reducible first|refine And.intro ?_ ?_|(first|refine Ab ?_ ?_|refine Aa ?_ ?_)<;>intro hc<;>(try simp only [push_cast] at hc))|omega|with_reducible intro _))
 refine Ba 6 ?_
 (repeat' (first|(simp (disch:=omega) only [push_cast,↓zz,seval,xx,List.mem_cons,List.not_mem_nil,or_false,false_or,not_or,not_false_eq_true,true_or,or_true,Cb,setM,e2,e3,n01])|(with_reducible first|refine And.intro ?_ ?_|(first|refine Ab ?_ ?_|refine Aa ?_ ?_)<;>intro hc<;>(try simp only [push_cast] at hc))|((with_reducible refine Am ?_))|((with_reducible refine Cl [1,5,8] ?_))|omega|with_reducible intro _))
 refine Bl 6 (fun env=>[Aw 1 (env 6)]) [(1,Ak sets),(6,.map 0 1),(10,Ad [⟨sm,sm⟩]),(53,.lst 1 [.int .i64 p0.at_,.int .i64 p1.at_]),(54,.int .i64 2),(55,.int .i64 0)] [⟨0,1,true,[.int .i64 p0.at_,Be [p0,p2],.int .i64 p1.at_,Be [p1,p3]]⟩] ?_ ?_
 · (repeat' (first|(simp (disch:=omega) only [push_cast,↓zz,seval,e2,e3,n01])|(with_reducible first|refine And.intro ?_ ?_|(first|refine Ab ?_ ?_|refine Aa ?_ ?_)<;>intro hc<;>(try simp only [push_cast] at hc))|omega|with_reducible intro _))
   all_goals (simp only [Ca,e2,e3,n01];done)
 (repeat' (first|(simp (disch:=omega) only [push_cast,↓zz,seval,Cb,B8,hg,e2,e3,n01])|(with_reducible first|refine And.intro ?_ ?_|(first|refine Ab ?_ ?_|refine Aa ?_ ?_)<;>intro hc<;>(try simp only [push_cast] at hc))|((with_reducible refine Am ?_))|(with_reducible first|refine eQ T1 ?_|refine eQ P1 ?_|refine eQ T2 ?_|refine eQ P2 ?_|refine eK hF ?_|refine eK hL ?_)|omega|with_reducible intro _))
 all_goals ((try simp only [*,decide_true,decide_false,Bool.true_and,Bool.false_and]);(repeat' (first|(simp (disch:=omega) only [push_cast,↓zz,seval,Bo])|omega|(with_reducible refine And.intro ?_ ?_))))
theorem z8g (bs dr tk up sm:Int) (p0 p1 p2 p3:Part) (sets:List (List Span)) (hs:B5 sm=true) (hS:Cm [p0,p1,p2,p3] sets) (e2:p2.at_=p0.at_) (n01:¬ p0.at_=p1.at_) (n03:¬ p0.at_=p3.at_) (n13:¬ p1.at_=p3.at_) :
   PC Tryz.prog 148 [Bv ⟨bs,dr,tk,up,sm,[p0,p1,p2,p3]⟩,Ak sets] (.tup [Ad (A8 ⟨bs,dr,tk,up,sm,[p0,p1,p2,p3]⟩ sets),.bool (B8 (A8 ⟨bs,dr,tk,up,sm,[p0,p1,p2,p3]⟩ sets))]):=by
 have hg:=Ae sets
 have b0:=Ai (hS.parts p0 (by simp))
 have b1:=Ai (hS.parts p1 (by simp))
 have b2:=Ai (hS.parts p2 (by simp))
 have b3:=Ai (hS.parts p3 (by simp))
 have A0:=Cu hs
 obtain ⟨T1,P1,A1⟩:=Al (a:=p0.at_) hS A0 (by omega) (by simp)
 have l1:atL [p0,p1,p2,p3] p0.at_=[p0,p2]:=by simp [atL,e2,n01,n03,n13,Ne.symm (show p0.at_ ≠ p1.at_ from n01),Ne.symm (show p0.at_ ≠ p3.at_ from n03),Ne.symm (show p1.at_ ≠ p3.at_ from n13)]
 rw [l1] at T1 P1
 obtain ⟨T2,P2,A2⟩:=Al (a:=p1.at_) hS A1 (by omega) (by simp)
 have l2:atL [p0,p1,p2,p3] p1.at_=[p1]:=by simp [atL,e2,n01,n03,n13,Ne.symm (show p0.at_ ≠ p1.at_ from n01),Ne.symm (show p0.at_ ≠ p3.at_ from n03),Ne.symm (show p1.at_ ≠ p3.at_ from n13)]
 rw [l2] at T2 P2
 obtain ⟨T3,P3,A3⟩:=Al (a:=p3.at_) hS A2 (by omega) (by simp)
 have l3:atL [p0,p1,p2,p3] p3.at_=[p3]:=by simp [atL,e2,n01,n03,n13,Ne.symm (show p0.at_ ≠ p1.at_ from n01),Ne.symm (show p0.at_ ≠ p3.at_ from n03),Ne.symm (show p1.at_ ≠ p3.at_ from n13)]
 rw [l3] at T3 P3
 have hv:A8 ⟨bs,dr,tk,up,sm,[p0,p1,p2,p3]⟩ sets=Bc [p0,p1,p2,p3] sets (Bc [p0,p1,p2,p3] sets (Bc [p0,p1,p2,p3] sets ([⟨sm,sm⟩]) p0.at_) p1.at_) p3.at_:=by simp [A8,B7,B4,e2,n01,n03,n13,Ne.symm (show p0.at_ ≠ p1.at_ from n01),Ne.symm (show p0.at_ ≠ p3.at_ from n03),Ne.symm (show p1.at_ ≠ p3.at_ from n13)]
 rw [hv]
 generalize ho1:Bc [p0,p1,p2,p3] sets ([⟨sm,sm⟩]) p0.at_=o1 at *
 generalize ht1:togL [p0,p2] (nth sets p0.at_.toNat)=t1 at *
 generalize ho2:Bc [p0,p1,p2,p3] sets (o1) p1.at_=o2 at *
 generalize ht2:togL [p1] (nth sets p1.at_.toNat)=t2 at *
 generalize ho3:Bc [p0,p1,p2,p3] sets (o2) p3.at_=o3 at *
 generalize ht3:togL [p3] (nth sets p3.at_.toNat)=t3 at *
 have hF:=Bm o3 (by have:=A3.2;omega)
 have hL:=Bw o3 (by have:=A3.2;omega)
 clear hS hv ho1 ht1 l1 ho2 ht2 l2 ho3 ht3 l3
 refine A9 A7 ?_
 unfold A5
 (repeat' (first|(simp (disch:=omega) only [push_cast,↓zz,seval])|(with_reducible first|refine And.intro ?_ ?_|(first|refine Ab ?_ ?_|refine Aa ?_ ?_)<;>intro hc<;>(try simp only [push_cast] at hc))|omega|with_reducible intro _))
 refine Ba 6 ?_
 (repeat' (first|(simp (disch:=omega) only [push_cast,↓zz,seval,xx,List.mem_cons,List.not_mem_nil,or_false,false_or,not_or,not_false_eq_true,true_or,or_true,Cb,setM,e2,n01,n03,n13])|(with_reducible first|refine And.intro ?_ ?_|(first|refine Ab ?_ ?_|refine Aa ?_ ?_)<;>intro hc<;>(try simp only [push_cast] at hc))|((with_reducible refine Am ?_))|((with_reducible refine Cl [1,5] ?_))|omega|with_reducible intro _))
 refine Bl 6 (fun env=>[Aw 1 (env 6)]) [(1,Ak sets),(6,.map 0 1),(10,Ad [⟨sm,sm⟩]),(53,.lst 1 [.int .i64 p0.at_,.int .i64 p1.at_,.int .i64 p3.at_]),(54,.int .i64 3),(55,.int .i64 0)] [⟨0,1,true,[.int .i64 p0.at_,Be [p0,p2],.int .i64 p1.at_,Be [p1],.int .i64 p3.at_,Be [p3]]⟩] ?_ ?_
 · (repeat' (first|(simp (disch:=omega) only [push_cast,↓zz,seval,e2,n01,n03,n13])|(with_reducible first|refine And.intro ?_ ?_|(first|refine Ab ?_ ?_|refine Aa ?_ ?_)<;>intro hc<;>(try simp only [push_cast] at hc))|omega|with_reducible intro _))
   all_goals (simp only [Ca,e2,n01,n03,n13];done)
 (repeat' (first|(simp (disch:=omega) only [push_cast,↓zz,seval,Cb,B8,hg,e2,n01,n03,n13])|(with_reducible first|refine And.intro ?_ ?_|(first|refine Ab ?_ ?_|refine Aa ?_ ?_)<;>intro hc<;>(try simp only [push_cast] at hc))|((with_reducible refine Am ?_))|(with_reducible first|refine eQ T1 ?_|refine eQ P1 ?_|refine eQ T2 ?_|refine eQ P2 ?_|refine eQ T3 ?_|refine eQ P3 ?_|refine eK hF ?_|refine eK hL ?_)|omega|with_reducible intro _))
 all_goals ((try simp only [*,decide_true,decide_false,Bool.true_and,Bool.false_and]);(repeat' (first|(simp (disch:=omega) only [push_cast,↓zz,seval,Bo])|omega|(with_reducible refine And.intro ?_ ?_))))
theorem z8h (bs dr tk up sm:Int) (p0 p1 p2 p3:Part) (sets:List (List Span)) (hs:B5 sm=true) (hS:Cm [p0,p1,p2,p3] sets) (e2:p2.at_=p1.at_) (e3:p3.at_=p0.at_) (n01:¬ p0.at_=p1.at_) :
   PC Tryz.prog 148 [Bv ⟨bs,dr,tk,up,sm,[p0,p1,p2,p3]⟩,Ak sets] (.tup [Ad (A8 ⟨bs,dr,tk,up,sm,[p0,p1,p2,p3]⟩ sets),.bool (B8 (A8 ⟨bs,dr,tk,up,sm,[p0,p1,p2,p3]⟩ sets))]):=by
 have hg:=Ae sets
 have b0:=Ai (hS.parts p0 (by simp))
 have b1:=Ai (hS.parts p1 (by simp))
 have b2:=Ai (hS.parts p2 (by simp))
 have b3:=Ai (hS.parts p3 (by simp))
 have A0:=Cu hs
 obtain ⟨T1,P1,A1⟩:=Al (a:=p0.at_) hS A0 (by omega) (by simp)
 have l1:atL [p0,p1,p2,p3] p0.at_=[p0,p3]:=by simp [atL,e2,e3,n01,Ne.symm (show p0.at_ ≠ p1.at_ from n01)]
 rw [l1] at T1 P1
 obtain ⟨T2,P2,A2⟩:=Al (a:=p1.at_) hS A1 (by omega) (by simp)
 have l2:atL [p0,p1,p2,p3] p1.at_=[p1,p2]:=by simp [atL,e2,e3,n01,Ne.symm (show p0.at_ ≠ p1.at_ from n01)]
 rw [l2] at T2 P2
 have hv:A8 ⟨bs,dr,tk,up,sm,[p0,p1,p2,p3]⟩ sets=Bc [p0,p1,p2,p3] sets (Bc [p0,p1,p2,p3] sets ([⟨sm,sm⟩]) p0.at_) p1.at_:=by simp [A8,B7,B4,e2,e3,n01,Ne.symm (show p0.at_ ≠ p1.at_ from n01)]
 rw [hv]
 generalize ho1:Bc [p0,p1,p2,p3] sets ([⟨sm,sm⟩]) p0.at_=o1 at *
 generalize ht1:togL [p0,p3] (nth sets p0.at_.toNat)=t1 at *
 generalize ho2:Bc [p0,p1,p2,p3] sets (o1) p1.at_=o2 at *
 generalize ht2:togL [p1,p2] (nth sets p1.at_.toNat)=t2 at *
 have hF:=Bm o2 (by have:=A2.2;omega)
 have hL:=Bw o2 (by have:=A2.2;omega)
 clear hS hv ho1 ht1 l1 ho2 ht2 l2
 refine A9 A7 ?_
 unfold A5
 (repeat' (first|(simp (disch:=omega) only [push_cast,↓zz,seval])|(with_reducible first|refine And.intro ?_ ?_|(first|refine Ab ?_ ?_|refine Aa ?_ ?_)<;>intro hc<;>(try simp only [push_cast] at hc))|omega|with_reducible intro _))
 refine Ba 6 ?_
 (repeat' (first|(simp (disch:=omega) only [push_cast,↓zz,seval,xx,List.mem_cons,List.not_mem_nil,or_false,false_or,not_or,not_false_eq_true,true_or,or_true,Cb,setM,e2,e3,n01])|(with_reducible first|refine And.intro ?_ ?_|(first|refine Ab ?_ ?_|refine Aa ?_ ?_)<;>intro hc<;>(try simp only [push_cast] at hc))|((with_reducible refine Am ?_))|((with_reducible refine Cl [1,5,8] ?_))|omega|with_reducible intro _))
 refine Bl 6 (fun env=>[Aw 1 (env 6)]) [(1,Ak sets),(6,.map 0 1),(10,Ad [⟨sm,sm⟩]),(53,.lst 1 [.int .i64 p0.at_,.int .i64 p1.at_]),(54,.int .i64 2),(55,.int .i64 0)] [⟨0,1,true,[.int .i64 p0.at_,Be [p0,p3],.int .i64 p1.at_,Be [p1,p2]]⟩] ?_ ?_
 · (repeat' (first|(simp (disch:=omega) only [push_cast,↓zz,seval,e2,e3,n01])|(with_reducible first|refine And.intro ?_ ?_|(first|refine Ab ?_ ?_|refine Aa ?_ ?_)<;>intro hc<;>(try simp only [push_cast] at hc))|omega|with_reducible intro _))
   all_goals (simp only [Ca,e2,e3,n01];done)
 (repeat' (first|(simp (disch:=omega) only [push_cast,↓zz,seval,Cb,B8,hg,e2,e3,n01])|(with_reducible first|refine And.intro ?_ ?_|(first|refine Ab ?_ ?_|refine Aa ?_ ?_)<;>intro hc<;>(try simp only [push_cast] at hc))|((with_reducible refine Am ?_))|(with_reducible first|refine eQ T1 ?_|refine eQ P1 ?_|refine eQ T2 ?_|refine eQ P2 ?_|refine eK hF ?_|refine eK hL ?_)|omega|with_reducible intro _))
 all_goals ((try simp only [*,decide_true,decide_false,Bool.true_and,Bool.false_and]);(repeat' (first|(simp (disch:=omega) only [push_cast,↓zz,seval,Bo])|omega|(with_reducible refine And.intro ?_ ?_))))
theorem z8i (bs dr tk up sm:Int) (p0 p1 p2 p3:Part) (sets:List (List Span)) (hs:B5 sm=true) (hS:Cm [p0,p1,p2,p3] sets) (e2:p2.at_=p1.at_) (e3:p3.at_=p1.at_) (n01:¬ p0.at_=p1.at_) :
   PC Tryz.prog 148 [Bv ⟨bs,dr,tk,up,sm,[p0,p1,p2,p3]⟩,Ak sets] (.tup [Ad (A8 ⟨bs,dr,tk,up,sm,[p0,p1,p2,p3]⟩ sets),.bool (B8 (A8 ⟨bs,dr,tk,up,sm,[p0,p1,p2,p3]⟩ sets))]):=by
 have hg:=Ae sets
 have b0:=Ai (hS.parts p0 (by simp))
 have b1:=Ai (hS.parts p1 (by simp))
 have b2:=Ai (hS.parts p2 (by simp))
 have b3:=Ai (hS.parts p3 (by simp))
 have A0:=Cu hs
 obtain ⟨T1,P1,A1⟩:=Al (a:=p0.at_) hS A0 (by omega) (by simp)
 have l1:atL [p0,p1,p2,p3] p0.at_=[p0]:=by simp [atL,e2,e3,n01,Ne.symm (show p0.at_ ≠ p1.at_ from n01)]
 rw [l1] at T1 P1
 obtain ⟨T2,P2,A2⟩:=Al (a:=p1.at_) hS A1 (by omega) (by simp)
 have l2:atL [p0,p1,p2,p3] p1.at_=[p1,p2,p3]:=by simp [atL,e2,e3,n01,Ne.symm (show p0.at_ ≠ p1.at_ from n01)]
 rw [l2] at T2 P2
 have hv:A8 ⟨bs,dr,tk,up,sm,[p0,p1,p2,p3]⟩ sets=Bc [p0,p1,p2,p3] sets (Bc [p0,p1,p2,p3] sets ([⟨sm,sm⟩]) p0.at_) p1.at_:=by simp [A8,B7,B4,e2,e3,n01,Ne.symm (show p0.at_ ≠ p1.at_ from n01)]
 rw [hv]
 generalize ho1:Bc [p0,p1,p2,p3] sets ([⟨sm,sm⟩]) p0.at_=o1 at *
 generalize ht1:togL [p0] (nth sets p0.at_.toNat)=t1 at *
 generalize ho2:Bc [p0,p1,p2,p3] sets (o1) p1.at_=o2 at *
 generalize ht2:togL [p1,p2,p3] (nth sets p1.at_.toNat)=t2 at *
 have hF:=Bm o2 (by have:=A2.2;omega)
 have hL:=Bw o2 (by have:=A2.2;omega)
 clear hS hv ho1 ht1 l1 ho2 ht2 l2
 refine A9 A7 ?_
 unfold A5
 (repeat' (first|(simp (disch:=omega) only [push_cast,↓zz,seval])|(with_reducible first|refine And.intro ?_ ?_|(first|refine Ab ?_ ?_|refine Aa ?_ ?_)<;>intro hc<;>(try simp only [push_cast] at hc))|omega|with_reducible intro _))
 refine Ba 6 ?_
 (repeat' (first|(simp (disch:=omega) only [push_cast,↓zz,seval,xx,List.mem_cons,List.not_mem_nil,or_false,false_or,not_or,not_false_eq_true,true_or,or_true,Cb,setM,e2,e3,n01])|(with_reducible first|refine And.intro ?_ ?_|(first|refine Ab ?_ ?_|refine Aa ?_ ?_)<;>intro hc<;>(try simp only [push_cast] at hc))|((with_reducible refine Am ?_))|((with_reducible refine Cl [1,8] ?_))|omega|with_reducible intro _))
 refine Bl 6 (fun env=>[Aw 1 (env 6)]) [(1,Ak sets),(6,.map 0 1),(10,Ad [⟨sm,sm⟩]),(53,.lst 1 [.int .i64 p0.at_,.int .i64 p1.at_]),(54,.int .i64 2),(55,.int .i64 0)] [⟨0,1,true,[.int .i64 p0.at_,Be [p0],.int .i64 p1.at_,Be [p1,p2,p3]]⟩] ?_ ?_
 · (repeat' (first|(simp (disch:=omega) only [push_cast,↓zz,seval,e2,e3,n01])|(with_reducible first|refine And.intro ?_ ?_|(first|refine Ab ?_ ?_|refine Aa ?_ ?_)<;>intro hc<;>(try simp only [push_cast] at hc))|omega|with_reducible intro _))
   all_goals (simp only [Ca,e2,e3,n01];done)
 (repeat' (first|(simp (disch:=omega) only [push_cast,↓zz,seval,Cb,B8,hg,e2,e3,n01])|(with_reducible first|refine And.intro ?_ ?_|(first|refine Ab ?_ ?_|refine Aa ?_ ?_)<;>intro hc<;>(try simp only [push_cast] at hc))|((with_reducible refine Am ?_))|(with_reducible first|refine eQ T1 ?_|refine eQ P1 ?_|refine eQ T2 ?_|refine eQ P2 ?_|refine eK hF ?_|refine eK hL ?_)|omega|with_reducible intro _))
 all_goals ((try simp only [*,decide_true,decide_false,Bool.true_and,Bool.false_and]);(repeat' (first|(simp (disch:=omega) only [push_cast,↓zz,seval,Bo])|omega|(with_reducible refine And.intro ?_ ?_))))
theorem z1v (bs dr tk up sm:Int) (p0 p1 p2 p3:Part) (sets:List (List Span)) (hs:B5 sm=true) (hS:Cm [p0,p1,p2,p3] sets) (e2:p2.at_=p1.at_) (n01:¬ p0.at_=p1.at_) (n03:¬ p0.at_=p3.at_) (n13:¬ p1.at_=p3.at_) :
   PC Tryz.prog 148 [Bv ⟨bs,dr,tk,up,sm,[p0,p1,p2,p3]⟩,Ak sets] (.tup [Ad (A8 ⟨bs,dr,tk,up,sm,[p0,p1,p2,p3]⟩ sets),.bool (B8 (A8 ⟨bs,dr,tk,up,sm,[p0,p1,p2,p3]⟩ sets))]):=by
 have hg:=Ae sets
 have b0:=Ai (hS.parts p0 (by simp))
 have b1:=Ai (hS.parts p1 (by simp))
 have b2:=Ai (hS.parts p2 (by simp))
 have b3:=Ai (hS.parts p3 (by simp))
 have A0:=Cu hs
 obtain ⟨T1,P1,A1⟩:=Al (a:=p0.at_) hS A0 (by omega) (by simp)
 have l1:atL [p0,p1,p2,p3] p0.at_=[p0]:=by simp [atL,e2,n01,n03,n13,Ne.symm (show p0.at_ ≠ p1.at_ from n01),Ne.symm (show p0.at_ ≠ p3.at_ from n03),Ne.symm (show p1.at_ ≠ p3.at_ from n13)]
 rw [l1] at T1 P1
 obtain ⟨T2,P2,A2⟩:=Al (a:=p1.at_) hS A1 (by omega) (by simp)
 have l2:atL [p0,p1,p2,p3] p1.at_=[p1,p2]:=by simp [atL,e2,n01,n03,n13,Ne.symm (show p0.at_ ≠ p1.at_ from n01),Ne.symm (show p0.at_ ≠ p3.at_ from n03),Ne.symm (show p1.at_ ≠ p3.at_ from n13)]
 rw [l2] at T2 P2
 obtain ⟨T3,P3,A3⟩:=Al (a:=p3.at_) hS A2 (by omega) (by simp)
 have l3:atL [p0,p1,p2,p3] p3.at_=[p3]:=by simp [atL,e2,n01,n03,n13,Ne.symm (show p0.at_ ≠ p1.at_ from n01),Ne.symm (show p0.at_ ≠ p3.at_ from n03),Ne.symm (show p1.at_ ≠ p3.at_ from n13)]
 rw [l3] at T3 P3
 have hv:A8 ⟨bs,dr,tk,up,sm,[p0,p1,p2,p3]⟩ sets=Bc [p0,p1,p2,p3] sets (Bc [p0,p1,p2,p3] sets (Bc [p0,p1,p2,p3] sets ([⟨sm,sm⟩]) p0.at_) p1.at_) p3.at_:=by simp [A8,B7,B4,e2,n01,n03,n13,Ne.symm (show p0.at_ ≠ p1.at_ from n01),Ne.symm (show p0.at_ ≠ p3.at_ from n03),Ne.symm (show p1.at_ ≠ p3.at_ from n13)]
 rw [hv]
 generalize ho1:Bc [p0,p1,p2,p3] sets ([⟨sm,sm⟩]) p0.at_=o1 at *
 generalize ht1:togL [p0] (nth sets p0.at_.toNat)=t1 at *
 generalize ho2:Bc [p0,p1,p2,p3] sets (o1) p1.at_=o2 at *
 generalize ht2:togL [p1,p2] (nth sets p1.at_.toNat)=t2 at *
 generalize ho3:Bc [p0,p1,p2,p3] sets (o2) p3.at_=o3 at *
 generalize ht3:togL [p3] (nth sets p3.at_.toNat)=t3 at *
 have hF:=Bm o3 (by have:=A3.2;omega)
 have hL:=Bw o3 (by have:=A3.2;omega)
 clear hS hv ho1 ht1 l1 ho2 ht2 l2 ho3 ht3 l3
 refine A9 A7 ?_
 unfold A5
 (repeat' (first|(simp (disch:=omega) only [push_cast,↓zz,seval])|(with_reducible first|refine And.intro ?_ ?_|(first|refine Ab ?_ ?_|refine Aa ?_ ?_)<;>intro hc<;>(try simp only [push_cast] at hc))|omega|with_reducible intro _))
 refine Ba 6 ?_
 (repeat' (first|(simp (disch:=omega) only [push_cast,↓zz,seval,xx,List.mem_cons,List.not_mem_nil,or_false,false_or,not_or,not_false_eq_true,true_or,or_true,Cb,setM,e2,n01,n03,n13])|(with_reducible first|refine And.intro ?_ ?_|(first|refine Ab ?_ ?_|refine Aa ?_ ?_)<;>intro hc<;>(try simp only [push_cast] at hc))|((with_reducible refine Am ?_))|((with_reducible refine Cl [1,8] ?_))|omega|with_reducible intro _))
 refine Bl 6 (fun env=>[Aw 1 (env 6)]) [(1,Ak sets),(6,.map 0 1),(10,Ad [⟨sm,sm⟩]),(53,.lst 1 [.int .i64 p0.at_,.int .i64 p1.at_,.int .i64 p3.at_]),(54,.int .i64 3),(55,.int .i64 0)] [⟨0,1,true,[.int .i64 p0.at_,Be [p0],.int .i64 p1.at_,Be [p1,p2],.int .i64 p3.at_,Be [p3]]⟩] ?_ ?_
 · (repeat' (first|(simp (disch:=omega) only [push_cast,↓zz,seval,e2,n01,n03,n13])|(with_reducible first|refine And.intro ?_ ?_|(first|refine Ab ?_ ?_|refine Aa ?_ ?_)<;>intro hc<;>(try simp only [push_cast] at hc))|omega|with_reducible intro _))
   all_goals (simp only [Ca,e2,n01,n03,n13];done)
 (repeat' (first|(simp (disch:=omega) only [push_cast,↓zz,seval,Cb,B8,hg,e2,n01,n03,n13])|(with_reducible first|refine And.intro ?_ ?_|(first|refine Ab ?_ ?_|refine Aa ?_ ?_)<;>intro hc<;>(try simp only [push_cast] at hc))|((with_reducible refine Am ?_))|(with_reducible first|refine eQ T1 ?_|refine eQ P1 ?_|refine eQ T2 ?_|refine eQ P2 ?_|refine eQ T3 ?_|refine eQ P3 ?_|refine eK hF ?_|refine eK hL ?_)|omega|with_reducible intro _))
 all_goals ((try simp only [*,decide_true,decide_false,Bool.true_and,Bool.false_and]);(repeat' (first|(simp (disch:=omega) only [push_cast,↓zz,seval,Bo])|omega|(with_reducible refine And.intro ?_ ?_))))
theorem z1w (bs dr tk up sm:Int) (p0 p1 p2 p3:Part) (sets:List (List Span)) (hs:B5 sm=true) (hS:Cm [p0,p1,p2,p3] sets) (e3:p3.at_=p0.at_) (n01:¬ p0.at_=p1.at_) (n02:¬ p0.at_=p2.at_) (n12:¬ p1.at_=p2.at_) :
   PC Tryz.prog 148 [Bv ⟨bs,dr,tk,up,sm,[p0,p1,p2,p3]⟩,Ak sets] (.tup [Ad (A8 ⟨bs,dr,tk,up,sm,[p0,p1,p2,p3]⟩ sets),.bool (B8 (A8 ⟨bs,dr,tk,up,sm,[p0,p1,p2,p3]⟩ sets))]):=by
 have hg:=Ae sets
 have b0:=Ai (hS.parts p0 (by simp))
 have b1:=Ai (hS.parts p1 (by simp))
 have b2:=Ai (hS.parts p2 (by simp))
 have b3:=Ai (hS.parts p3 (by simp))
 have A0:=Cu hs
 obtain ⟨T1,P1,A1⟩:=Al (a:=p0.at_) hS A0 (by omega) (by simp)
 have l1:atL [p0,p1,p2,p3] p0.at_=[p0,p3]:=by simp [atL,e3,n01,n02,n12,Ne.symm (show p0.at_ ≠ p1.at_ from n01),Ne.symm (show p0.at_ ≠ p2.at_ from n02),Ne.symm (show p1.at_ ≠ p2.at_ from n12)]
 rw [l1] at T1 P1
 obtain ⟨T2,P2,A2⟩:=Al (a:=p1.at_) hS A1 (by omega) (by simp)
 have l2:atL [p0,p1,p2,p3] p1.at_=[p1]:=by simp [atL,e3,n01,n02,n12,Ne.symm (show p0.at_ ≠ p1.at_ from n01),Ne.symm (show p0.at_ ≠ p2.at_ from n02),Ne.symm (show p1.at_ ≠ p2.at_ from n12)]
 rw [l2] at T2 P2
 obtain ⟨T3,P3,A3⟩:=Al (a:=p2.at_) hS A2 (by omega) (by simp)
 have l3:atL [p0,p1,p2,p3] p2.at_=[p2]:=by simp [atL,e3,n01,n02,n12,Ne.symm (show p0.at_ ≠ p1.at_ from n01),Ne.symm (show p0.at_ ≠ p2.at_ from n02),Ne.symm (show p1.at_ ≠ p2.at_ from n12)]
 rw [l3] at T3 P3
 have hv:A8 ⟨bs,dr,tk,up,sm,[p0,p1,p2,p3]⟩ sets=Bc [p0,p1,p2,p3] sets (Bc [p0,p1,p2,p3] sets (Bc [p0,p1,p2,p3] sets ([⟨sm,sm⟩]) p0.at_) p1.at_) p2.at_:=by simp [A8,B7,B4,e3,n01,n02,n12,Ne.symm (show p0.at_ ≠ p1.at_ from n01),Ne.symm (show p0.at_ ≠ p2.at_ from n02),Ne.symm (show p1.at_ ≠ p2.at_ from n12)]
 rw [hv]
 generalize ho1:Bc [p0,p1,p2,p3] sets ([⟨sm,sm⟩]) p0.at_=o1 at *
 generalize ht1:togL [p0,p3] (nth sets p0.at_.toNat)=t1 at *
 generalize ho2:Bc [p0,p1,p2,p3] sets (o1) p1.at_=o2 at *
 generalize ht2:togL [p1] (nth sets p1.at_.toNat)=t2 at *
 generalize ho3:Bc [p0,p1,p2,p3] sets (o2) p2.at_=o3 at *
 generalize ht3:togL [p2] (nth sets p2.at_.toNat)=t3 at *
 have hF:=Bm o3 (by have:=A3.2;omega)
 have hL:=Bw o3 (by have:=A3.2;omega)
 clear hS hv ho1 ht1 l1 ho2 ht2 l2 ho3 ht3 l3
 refine A9 A7 ?_
 unfold A5
 (repeat' (first|(simp (disch:=omega) only [push_cast,↓zz,seval])|(with_reducible first|refine And.intro ?_ ?_|(first|refine Ab ?_ ?_|refine Aa ?_ ?_)<;>intro hc<;>(try simp only [push_cast] at hc))|omega|with_reducible intro _))
 refine Ba 6 ?_
 (repeat' (first|(simp (disch:=omega) only [push_cast,↓zz,seval,xx,List.mem_cons,List.not_mem_nil,or_false,false_or,not_or,not_false_eq_true,true_or,or_true,Cb,setM,e3,n01,n02,n12])|(with_reducible first|refine And.intro ?_ ?_|(first|refine Ab ?_ ?_|refine Aa ?_ ?_)<;>intro hc<;>(try simp only [push_cast] at hc))|((with_reducible refine Am ?_))|((with_reducible refine Cl [1,5] ?_))|omega|with_reducible intro _))
 refine Bl 6 (fun env=>[Aw 1 (env 6)]) [(1,Ak sets),(6,.map 0 1),(10,Ad [⟨sm,sm⟩]),(53,.lst 1 [.int .i64 p0.at_,.int .i64 p1.at_,.int .i64 p2.at_]),(54,.int .i64 3),(55,.int .i64 0)] [⟨0,1,true,[.int .i64 p0.at_,Be [p0,p3],.int .i64 p1.at_,Be [p1],.int .i64 p2.at_,Be [p2]]⟩] ?_ ?_
 · (repeat' (first|(simp (disch:=omega) only [push_cast,↓zz,seval,e3,n01,n02,n12])|(with_reducible first|refine And.intro ?_ ?_|(first|refine Ab ?_ ?_|refine Aa ?_ ?_)<;>intro hc<;>(try simp only [push_cast] at hc))|omega|with_reducible intro _))
   all_goals (simp only [Ca,e3,n01,n02,n12];done)
 (repeat' (first|(simp (disch:=omega) only [push_cast,↓zz,seval,Cb,B8,hg,e3,n01,n02,n12])|(with_reducible first|refine And.intro ?_ ?_|(first|refine Ab ?_ ?_|refine Aa ?_ ?_)<;>intro hc<;>(try simp only [push_cast] at hc))|((with_reducible refine Am ?_))|(with_reducible first|refine eQ T1 ?_|refine eQ P1 ?_|refine eQ T2 ?_|refine eQ P2 ?_|refine eQ T3 ?_|refine eQ P3 ?_|refine eK hF ?_|refine eK hL ?_)|omega|with_reducible intro _))
 all_goals ((try simp only [*,decide_true,decide_false,Bool.true_and,Bool.false_and]);(repeat' (first|(simp (disch:=omega) only [push_cast,↓zz,seval,Bo])|omega|(with_reducible refine And.intro ?_ ?_))))
theorem z1x (bs dr tk up sm:Int) (p0 p1 p2 p3:Part) (sets:List (List Span)) (hs:B5 sm=true) (hS:Cm [p0,p1,p2,p3] sets) (e3:p3.at_=p1.at_) (n01:¬ p0.at_=p1.at_) (n02:¬ p0.at_=p2.at_) (n12:¬ p1.at_=p2.at_) :
   PC Tryz.prog 148 [Bv ⟨bs,dr,tk,up,sm,[p0,p1,p2,p3]⟩,Ak sets] (.tup [Ad (A8 ⟨bs,dr,tk,up,sm,[p0,p1,p2,p3]⟩ sets),.bool (B8 (A8 ⟨bs,dr,tk,up,sm,[p0,p1,p2,p3]⟩ sets))]):=by
 have hg:=Ae sets
 have b0:=Ai (hS.parts p0 (by simp))
 have b1:=Ai (hS.parts p1 (by simp))
 have b2:=Ai (hS.parts p2 (by simp))
 have b3:=Ai (hS.parts p3 (by simp))
 have A0:=Cu hs
 obtain ⟨T1,P1,A1⟩:=Al (a:=p0.at_) hS A0 (by omega) (by simp)
 have l1:atL [p0,p1,p2,p3] p0.at_=[p0]:=by simp [atL,e3,n01,n02,n12,Ne.symm (show p0.at_ ≠ p1.at_ from n01),Ne.symm (show p0.at_ ≠ p2.at_ from n02),Ne.symm (show p1.at_ ≠ p2.at_ from n12)]
 rw [l1] at T1 P1
 obtain ⟨T2,P2,A2⟩:=Al (a:=p1.at_) hS A1 (by omega) (by simp)
 have l2:atL [p0,p1,p2,p3] p1.at_=[p1,p3]:=by simp [atL,e3,n01,n02,n12,Ne.symm (show p0.at_ ≠ p1.at_ from n01),Ne.symm (show p0.at_ ≠ p2.at_ from n02),Ne.symm (show p1.at_ ≠ p2.at_ from n12)]
 rw [l2] at T2 P2
 obtain ⟨T3,P3,A3⟩:=Al (a:=p2.at_) hS A2 (by omega) (by simp)
 have l3:atL [p0,p1,p2,p3] p2.at_=[p2]:=by simp [atL,e3,n01,n02,n12,Ne.symm (show p0.at_ ≠ p1.at_ from n01),Ne.symm (show p0.at_ ≠ p2.at_ from n02),Ne.symm (show p1.at_ ≠ p2.at_ from n12)]
 rw [l3] at T3 P3
 have hv:A8 ⟨bs,dr,tk,up,sm,[p0,p1,p2,p3]⟩ sets=Bc [p0,p1,p2,p3] sets (Bc [p0,p1,p2,p3] sets (Bc [p0,p1,p2,p3] sets ([⟨sm,sm⟩]) p0.at_) p1.at_) p2.at_:=by simp [A8,B7,B4,e3,n01,n02,n12,Ne.symm (show p0.at_ ≠ p1.at_ from n01),Ne.symm (show p0.at_ ≠ p2.at_ from n02),Ne.symm (show p1.at_ ≠ p2.at_ from n12)]
 rw [hv]
 generalize ho1:Bc [p0,p1,p2,p3] sets ([⟨sm,sm⟩]) p0.at_=o1 at *
 generalize ht1:togL [p0] (nth sets p0.at_.toNat)=t1 at *
 generalize ho2:Bc [p0,p1,p2,p3] sets (o1) p1.at_=o2 at *
 generalize ht2:togL [p1,p3] (nth sets p1.at_.toNat)=t2 at *
 generalize ho3:Bc [p0,p1,p2,p3] sets (o2) p2.at_=o3 at *
 generalize ht3:togL [p2] (nth sets p2.at_.toNat)=t3 at *
 have hF:=Bm o3 (by have:=A3.2;omega)
 have hL:=Bw o3 (by have:=A3.2;omega)
 clear hS hv ho1 ht1 l1 ho2 ht2 l2 ho3 ht3 l3
 refine A9 A7 ?_
 unfold A5
 (repeat' (first|(simp (disch:=omega) only [push_cast,↓zz,seval])|(with_reducible first|refine And.intro ?_ ?_|(first|refine Ab ?_ ?_|refine Aa ?_ ?_)<;>intro hc<;>(try simp only [push_cast] at hc))|omega|with_reducible intro _))
 refine Ba 6 ?_
 (repeat' (first|(simp (disch:=omega) only [push_cast,↓zz,seval,xx,List.mem_cons,List.not_mem_nil,or_false,false_or,not_or,not_false_eq_true,true_or,or_true,Cb,setM,e3,n01,n02,n12])|(with_reducible first|refine And.intro ?_ ?_|(first|refine Ab ?_ ?_|refine Aa ?_ ?_)<;>intro hc<;>(try simp only [push_cast] at hc))|((with_reducible refine Am ?_))|((with_reducible refine Cl [1,8] ?_))|omega|with_reducible intro _))
 refine Bl 6 (fun env=>[Aw 1 (env 6)]) [(1,Ak sets),(6,.map 0 1),(10,Ad [⟨sm,sm⟩]),(53,.lst 1 [.int .i64 p0.at_,.int .i64 p1.at_,.int .i64 p2.at_]),(54,.int .i64 3),(55,.int .i64 0)] [⟨0,1,true,[.int .i64 p0.at_,Be [p0],.int .i64 p1.at_,Be [p1,p3],.int .i64 p2.at_,Be [p2]]⟩] ?_ ?_
 · (repeat' (first|(simp (disch:=omega) only [push_cast,↓zz,seval,e3,n01,n02,n12])|(with_reducible first|refine And.intro ?_ ?_|(first|refine Ab ?_ ?_|refine Aa ?_ ?_)<;>intro hc<;>(try simp only [push_cast] at hc))|omega|with_reducible intro _))
   all_goals (simp only [Ca,e3,n01,n02,n12];done)
 (repeat' (first|(simp (disch:=omega) only [push_cast,↓zz,seval,Cb,B8,hg,e3,n01,n02,n12])|(with_reducible first|refine And.intro ?_ ?_|(first|refine Ab ?_ ?_|refine Aa ?_ ?_)<;>intro hc<;>(try simp only [push_cast] at hc))|((with_reducible refine Am ?_))|(with_reducible first|refine eQ T1 ?_|refine eQ P1 ?_|refine eQ T2 ?_|refine eQ P2 ?_|refine eQ T3 ?_|refine eQ P3 ?_|refine eK hF ?_|refine eK hL ?_)|omega|with_reducible intro _))
 all_goals ((try simp only [*,decide_true,decide_false,Bool.true_and,Bool.false_and]);(repeat' (first|(simp (disch:=omega) only [push_cast,↓zz,seval,Bo])|omega|(with_reducible refine And.intro ?_ ?_))))
theorem z1y (bs dr tk up sm:Int) (p0 p1 p2 p3:Part) (sets:List (List Span)) (hs:B5 sm=true) (hS:Cm [p0,p1,p2,p3] sets) (e3:p3.at_=p2.at_) (n01:¬ p0.at_=p1.at_) (n02:¬ p0.at_=p2.at_) (n12:¬ p1.at_=p2.at_) :
   PC Tryz.prog 148 [Bv ⟨bs,dr,tk,up,sm,[p0,p1,p2,p3]⟩,Ak sets] (.tup [Ad (A8 ⟨bs,dr,tk,up,sm,[p0,p1,p2,p3]⟩ sets),.bool (B8 (A8 ⟨bs,dr,tk,up,sm,[p0,p1,p2,p3]⟩ sets))]):=by
 have hg:=Ae sets
 have b0:=Ai (hS.parts p0 (by simp))
 have b1:=Ai (hS.parts p1 (by simp))
 have b2:=Ai (hS.parts p2 (by simp))
 have b3:=Ai (hS.parts p3 (by simp))
 have A0:=Cu hs
 obtain ⟨T1,P1,A1⟩:=Al (a:=p0.at_) hS A0 (by omega) (by simp)
 have l1:atL [p0,p1,p2,p3] p0.at_=[p0]:=by simp [atL,e3,n01,n02,n12,Ne.symm (show p0.at_ ≠ p1.at_ from n01),Ne.symm (show p0.at_ ≠ p2.at_ from n02),Ne.symm (show p1.at_ ≠ p2.at_ from n12)]
 rw [l1] at T1 P1
 obtain ⟨T2,P2,A2⟩:=Al (a:=p1.at_) hS A1 (by omega) (by simp)
 have l2:atL [p0,p1,p2,p3] p1.at_=[p1]:=by simp [atL,e3,n01,n02,n12,Ne.symm (show p0.at_ ≠ p1.at_ from n01),Ne.symm (show p0.at_ ≠ p2.at_ from n02),Ne.symm (show p1.at_ ≠ p2.at_ from n12)]
 rw [l2] at T2 P2
 obtain ⟨T3,P3,A3⟩:=Al (a:=p2.at_) hS A2 (by omega) (by simp)
 have l3:atL [p0,p1,p2,p3] p2.at_=[p2,p3]:=by simp [atL,e3,n01,n02,n12,Ne.symm (show p0.at_ ≠ p1.at_ from n01),Ne.symm (show p0.at_ ≠ p2.at_ from n02),Ne.symm (show p1.at_ ≠ p2.at_ from n12)]
 rw [l3] at T3 P3
 have hv:A8 ⟨bs,dr,tk,up,sm,[p0,p1,p2,p3]⟩ sets=Bc [p0,p1,p2,p3] sets (Bc [p0,p1,p2,p3] sets (Bc [p0,p1,p2,p3] sets ([⟨sm,sm⟩]) p0.at_) p1.at_) p2.at_:=by simp [A8,B7,B4,e3,n01,n02,n12,Ne.symm (show p0.at_ ≠ p1.at_ from n01),Ne.symm (show p0.at_ ≠ p2.at_ from n02),Ne.symm (show p1.at_ ≠ p2.at_ from n12)]
 rw [hv]
 generalize ho1:Bc [p0,p1,p2,p3] sets ([⟨sm,sm⟩]) p0.at_=o1 at *
 generalize ht1:togL [p0] (nth sets p0.at_.toNat)=t1 at *
 generalize ho2:Bc [p0,p1,p2,p3] sets (o1) p1.at_=o2 at *
 generalize ht2:togL [p1] (nth sets p1.at_.toNat)=t2 at *
 generalize ho3:Bc [p0,p1,p2,p3] sets (o2) p2.at_=o3 at *
 generalize ht3:togL [p2,p3] (nth sets p2.at_.toNat)=t3 at *
 have hF:=Bm o3 (by have:=A3.2;omega)
 have hL:=Bw o3 (by have:=A3.2;omega)
 clear hS hv ho1 ht1 l1 ho2 ht2 l2 ho3 ht3 l3
 refine A9 A7 ?_
 unfold A5
 (repeat' (first|(simp (disch:=omega) only [push_cast,↓zz,seval])|(with_reducible first|refine And.intro ?_ ?_|(first|refine Ab ?_ ?_|refine Aa ?_ ?_)<;>intro hc<;>(try simp only [push_cast] at hc))|omega|with_reducible intro _))
 refine Ba 6 ?_
 (repeat' (first|(simp (disch:=omega) only [push_cast,↓zz,seval,xx,List.mem_cons,List.not_mem_nil,or_false,false_or,not_or,not_false_eq_true,true_or,or_true,Cb,setM,e3,n01,n02,n12])|(with_reducible first|refine And.intro ?_ ?_|(first|refine Ab ?_ ?_|refine Aa ?_ ?_)<;>intro hc<;>(try simp only [push_cast] at hc))|((with_reducible refine Am ?_))|((with_reducible refine Cl [1,11] ?_))|omega|with_reducible intro _))
 refine Bl 6 (fun env=>[Aw 1 (env 6)]) [(1,Ak sets),(6,.map 0 1),(10,Ad [⟨sm,sm⟩]),(53,.lst 1 [.int .i64 p0.at_,.int .i64 p1.at_,.int .i64 p2.at_]),(54,.int .i64 3),(55,.int .i64 0)] [⟨0,1,true,[.int .i64 p0.at_,Be [p0],.int .i64 p1.at_,Be [p1],.int .i64 p2.at_,Be [p2,p3]]⟩] ?_ ?_
 · (repeat' (first|(simp (disch:=omega) only [push_cast,↓zz,seval,e3,n01,n02,n12])|(with_reducible first|refine And.intro ?_ ?_|(first|refine Ab ?_ ?_|refine Aa ?_ ?_)<;>intro hc<;>(try simp only [push_cast] at hc))|omega|with_reducible intro _))
   all_goals (simp only [Ca,e3,n01,n02,n12];done)
 (repeat' (first|(simp (disch:=omega) only [push_cast,↓zz,seval,Cb,B8,hg,e3,n01,n02,n12])|(with_reducible first|refine And.intro ?_ ?_|(first|refine Ab ?_ ?_|refine Aa ?_ ?_)<;>intro hc<;>(try simp only [push_cast] at hc))|((with_reducible refine Am ?_))|(with_reducible first|refine eQ T1 ?_|refine eQ P1 ?_|refine eQ T2 ?_|refine eQ P2 ?_|refine eQ T3 ?_|refine eQ P3 ?_|refine eK hF ?_|refine eK hL ?_)|omega|with_reducible intro _))
 all_goals ((try simp only [*,decide_true,decide_false,Bool.true_and,Bool.false_and]);(repeat' (first|(simp (disch:=omega) only [push_cast,↓zz,seval,Bo])|omega|(with_reducible refine And.intro ?_ ?_))))
theorem z1z (bs dr tk up sm:Int) (p0 p1 p2 p3:Part) (sets:List (List Span)) (hs:B5 sm=true) (hS:Cm [p0,p1,p2,p3] sets) (n01:¬ p0.at_=p1.at_) (n02:¬ p0.at_=p2.at_) (n03:¬ p0.at_=p3.at_) (n12:¬ p1.at_=p2.at_) (n13:¬ p1.at_=p3.at_) (n23:¬ p2.at_=p3.at_) :
   PC Tryz.prog 148 [Bv ⟨bs,dr,tk,up,sm,[p0,p1,p2,p3]⟩,Ak sets] (.tup [Ad (A8 ⟨bs,dr,tk,up,sm,[p0,p1,p2,p3]⟩ sets),.bool (B8 (A8 ⟨bs,dr,tk,up,sm,[p0,p1,p2,p3]⟩ sets))]):=by
 have hg:=Ae sets
 have b0:=Ai (hS.parts p0 (by simp))
 have b1:=Ai (hS.parts p1 (by simp))
 have b2:=Ai (hS.parts p2 (by simp))
 have b3:=Ai (hS.parts p3 (by simp))
 have A0:=Cu hs
 obtain ⟨T1,P1,A1⟩:=Al (a:=p0.at_) hS A0 (by omega) (by simp)
 have l1:atL [p0,p1,p2,p3] p0.at_=[p0]:=by simp [atL,n01,n02,n03,n12,n13,n23,Ne.symm (show p0.at_ ≠ p1.at_ from n01),Ne.symm (show p0.at_ ≠ p2.at_ from n02),Ne.symm (show p0.at_ ≠ p3.at_ from n03),Ne.symm (show p1.at_ ≠ p2.at_ from n12),Ne.symm (show p1.at_ ≠ p3.at_ from n13),Ne.symm (show p2.at_ ≠ p3.at_ from n23)]
 rw [l1] at T1 P1
 obtain ⟨T2,P2,A2⟩:=Al (a:=p1.at_) hS A1 (by omega) (by simp)
 have l2:atL [p0,p1,p2,p3] p1.at_=[p1]:=by simp [atL,n01,n02,n03,n12,n13,n23,Ne.symm (show p0.at_ ≠ p1.at_ from n01),Ne.symm (show p0.at_ ≠ p2.at_ from n02),Ne.symm (show p0.at_ ≠ p3.at_ from n03),Ne.symm (show p1.at_ ≠ p2.at_ from n12),Ne.symm (show p1.at_ ≠ p3.at_ from n13),Ne.symm (show p2.at_ ≠ p3.at_ from n23)]
 rw [l2] at T2 P2
 obtain ⟨T3,P3,A3⟩:=Al (a:=p2.at_) hS A2 (by omega) (by simp)
 have l3:atL [p0,p1,p2,p3] p2.at_=[p2]:=by simp [atL,n01,n02,n03,n12,n13,n23,Ne.symm (show p0.at_ ≠ p1.at_ from n01),Ne.symm (show p0.at_ ≠ p2.at_ from n02),Ne.symm (show p0.at_ ≠ p3.at_ from n03),Ne.symm (show p1.at_ ≠ p2.at_ from n12),Ne.symm (show p1.at_ ≠ p3.at_ from n13),Ne.symm (show p2.at_ ≠ p3.at_ from n23)]
 rw [l3] at T3 P3
 obtain ⟨T4,P4,A4⟩:=Al (a:=p3.at_) hS A3 (by omega) (by simp)
 have l4:atL [p0,p1,p2,p3] p3.at_=[p3]:=by simp [atL,n01,n02,n03,n12,n13,n23,Ne.symm (show p0.at_ ≠ p1.at_ from n01),Ne.symm (show p0.at_ ≠ p2.at_ from n02),Ne.symm (show p0.at_ ≠ p3.at_ from n03),Ne.symm (show p1.at_ ≠ p2.at_ from n12),Ne.symm (show p1.at_ ≠ p3.at_ from n13),Ne.symm (show p2.at_ ≠ p3.at_ from n23)]
 rw [l4] at T4 P4
 have hv:A8 ⟨bs,dr,tk,up,sm,[p0,p1,p2,p3]⟩ sets=Bc [p0,p1,p2,p3] sets (Bc [p0,p1,p2,p3] sets (Bc [p0,p1,p2,p3] sets (Bc [p0,p1,p2,p3] sets ([⟨sm,sm⟩]) p0.at_) p1.at_) p2.at_) p3.at_:=by simp [A8,B7,B4,n01,n02,n03,n12,n13,n23,Ne.symm (show p0.at_ ≠ p1.at_ from n01),Ne.symm (show p0.at_ ≠ p2.at_ from n02),Ne.symm (show p0.at_ ≠ p3.at_ from n03),Ne.symm (show p1.at_ ≠ p2.at_ from n12),Ne.symm (show p1.at_ ≠ p3.at_ from n13),Ne.symm (show p2.at_ ≠ p3.at_ from n23)]
 rw [hv]
 generalize ho1:Bc [p0,p1,p2,p3] sets ([⟨sm,sm⟩]) p0.at_=o1 at *
 generalize ht1:togL [p0] (nth sets p0.at_.toNat)=t1 at *
 generalize ho2:Bc [p0,p1,p2,p3] sets (o1) p1.at_=o2 at *
 generalize ht2:togL [p1] (nth sets p1.at_.toNat)=t2 at *
 generalize ho3:Bc [p0,p1,p2,p3] sets (o2) p2.at_=o3 at *
 generalize ht3:togL [p2] (nth sets p2.at_.toNat)=t3 at *
 generalize ho4:Bc [p0,p1,p2,p3] sets (o3) p3.at_=o4 at *
 generalize ht4:togL [p3] (nth sets p3.at_.toNat)=t4 at *
 have hF:=Bm o4 (by have:=A4.2;omega)
 have hL:=Bw o4 (by have:=A4.2;omega)
 clear hS hv ho1 ht1 l1 ho2 ht2 l2 ho3 ht3 l3 ho4 ht4 l4
 refine A9 A7 ?_
 unfold A5
 (repeat' (first|(simp (disch:=omega) only [push_cast,↓zz,seval])|(with_reducible first|refine And.intro ?_ ?_|(first|refine Ab ?_ ?_|refine Aa ?_ ?_)<;>intro hc<;>(try simp only [push_cast] at hc))|omega|with_reducible intro _))
 refine Ba 6 ?_
 (repeat' (first|(simp (disch:=omega) only [push_cast,↓zz,seval,xx,List.mem_cons,List.not_mem_nil,or_false,false_or,not_or,not_false_eq_true,true_or,or_true,Cb,setM,n01,n02,n03,n12,n13,n23])|(with_reducible first|refine And.intro ?_ ?_|(first|refine Ab ?_ ?_|refine Aa ?_ ?_)<;>intro hc<;>(try simp only [push_cast] at hc))|((with_reducible refine Am ?_))|((with_reducible refine Cl [1] ?_))|omega|with_reducible intro _))
 refine Bl 6 (fun env=>[Aw 1 (env 6)]) [(1,Ak sets),(6,.map 0 1),(10,Ad [⟨sm,sm⟩]),(53,.lst 1 [.int .i64 p0.at_,.int .i64 p1.at_,.int .i64 p2.at_,.int .i64 p3.at_]),(54,.int .i64 4),(55,.int .i64 0)] [⟨0,1,true,[.int .i64 p0.at_,Be [p0],.int .i64 p1.at_,Be [p1],.int .i64 p2.at_,Be [p2],.int .i64 p3.at_,Be [p3]]⟩] ?_ ?_
 · (repeat' (first|(simp (disch:=omega) only [push_cast,↓zz,seval,n01,n02,n03,n12,n13,n23])|(with_reducible first|refine And.intro ?_ ?_|(first|refine Ab ?_ ?_|refine Aa ?_ ?_)<;>intro hc<;>(try simp only [push_cast] at hc))|omega|with_reducible intro _))
   all_goals (simp only [Ca,n01,n02,n03,n12,n13,n23];done)
 (repeat' (first|(simp (disch:=omega) only [push_cast,↓zz,seval,Cb,B8,hg,n01,n02,n03,n12,n13,n23])|(with_reducible first|refine And.intro ?_ ?_|(first|refine Ab ?_ ?_|refine Aa ?_ ?_)<;>intro hc<;>(try simp only [push_cast] at hc))|((with_reducible refine Am ?_))|(with_reducible first|refine eQ T1 ?_|refine eQ P1 ?_|refine eQ T2 ?_|refine eQ P2 ?_|refine eQ T3 ?_|refine eQ P3 ?_|refine eQ T4 ?_|refine eQ P4 ?_|refine eK hF ?_|refine eK hL ?_)|omega|with_reducible intro _))
 all_goals ((try simp only [*,decide_true,decide_false,Bool.true_and,Bool.false_and]);(repeat' (first|(simp (disch:=omega) only [push_cast,↓zz,seval,Bo])|omega|(with_reducible refine And.intro ?_ ?_))))
theorem zhp (bs dr tk up sm:Int) (p0 p1 p2 p3:Part) (sets:List (List Span)) (hs:B5 sm=true) (hS:Cm [p0,p1,p2,p3] sets) :
   PC Tryz.prog 148 [Bv ⟨bs,dr,tk,up,sm,[p0,p1,p2,p3]⟩,Ak sets] (.tup [Ad (A8 ⟨bs,dr,tk,up,sm,[p0,p1,p2,p3]⟩ sets),.bool (B8 (A8 ⟨bs,dr,tk,up,sm,[p0,p1,p2,p3]⟩ sets))]):=by
 rcases Classical.em (p1.at_=p0.at_) with e1|x01
 · skip
   rcases Classical.em (p2.at_=p0.at_) with e2|x02
   · skip
     rcases Classical.em (p3.at_=p0.at_) with e3|x03
     · skip
       exact z89 bs dr tk up sm p0 p1 p2 p3 sets hs hS e1 e2 e3
     have n03:¬ p0.at_=p3.at_:=fun h=>x03 h.symm
     exact z8a bs dr tk up sm p0 p1 p2 p3 sets hs hS e1 e2 n03
   have n02:¬ p0.at_=p2.at_:=fun h=>x02 h.symm
   rcases Classical.em (p3.at_=p0.at_) with e3|x03
   · skip
     exact z8b bs dr tk up sm p0 p1 p2 p3 sets hs hS e1 e3 n02
   have n03:¬ p0.at_=p3.at_:=fun h=>x03 h.symm
   rcases Classical.em (p3.at_=p2.at_) with e3|x23
   · skip
     exact z8c bs dr tk up sm p0 p1 p2 p3 sets hs hS e1 e3 n02
   have n23:¬ p2.at_=p3.at_:=fun h=>x23 h.symm
   exact z8d bs dr tk up sm p0 p1 p2 p3 sets hs hS e1 n02 n03 n23
 have n01:¬ p0.at_=p1.at_:=fun h=>x01 h.symm
 rcases Classical.em (p2.at_=p0.at_) with e2|x02
 · skip
   rcases Classical.em (p3.at_=p0.at_) with e3|x03
   · skip
     exact z8e bs dr tk up sm p0 p1 p2 p3 sets hs hS e2 e3 n01
   have n03:¬ p0.at_=p3.at_:=fun h=>x03 h.symm
   rcases Classical.em (p3.at_=p1.at_) with e3|x13
   · skip
     exact z8f bs dr tk up sm p0 p1 p2 p3 sets hs hS e2 e3 n01
   have n13:¬ p1.at_=p3.at_:=fun h=>x13 h.symm
   exact z8g bs dr tk up sm p0 p1 p2 p3 sets hs hS e2 n01 n03 n13
 have n02:¬ p0.at_=p2.at_:=fun h=>x02 h.symm
 rcases Classical.em (p2.at_=p1.at_) with e2|x12
 · skip
   rcases Classical.em (p3.at_=p0.at_) with e3|x03
   · skip
     exact z8h bs dr tk up sm p0 p1 p2 p3 sets hs hS e2 e3 n01
   have n03:¬ p0.at_=p3.at_:=fun h=>x03 h.symm
   rcases Classical.em (p3.at_=p1.at_) with e3|x13
   · skip
     exact z8i bs dr tk up sm p0 p1 p2 p3 sets hs hS e2 e3 n01
   have n13:¬ p1.at_=p3.at_:=fun h=>x13 h.symm
   exact z1v bs dr tk up sm p0 p1 p2 p3 sets hs hS e2 n01 n03 n13
 have n12:¬ p1.at_=p2.at_:=fun h=>x12 h.symm
 rcases Classical.em (p3.at_=p0.at_) with e3|x03
 · skip
   exact z1w bs dr tk up sm p0 p1 p2 p3 sets hs hS e3 n01 n02 n12
 have n03:¬ p0.at_=p3.at_:=fun h=>x03 h.symm
 rcases Classical.em (p3.at_=p1.at_) with e3|x13
 · skip
   exact z1x bs dr tk up sm p0 p1 p2 p3 sets hs hS e3 n01 n02 n12
 have n13:¬ p1.at_=p3.at_:=fun h=>x13 h.symm
 rcases Classical.em (p3.at_=p2.at_) with e3|x23
 · skip
   exact z1y bs dr tk up sm p0 p1 p2 p3 sets hs hS e3 n01 n02 n12
 have n23:¬ p2.at_=p3.at_:=fun h=>x23 h.symm
 exact z1z bs dr tk up sm p0 p1 p2 p3 sets hs hS n01 n02 n03 n12 n13 n23
theorem z2a (t:Term) (sets:List (List Span)) (hl:t.parts.length ≤ 4) (hs:B5 t.sum=true) (hS:Cm t.parts sets) :
   PC Tryz.prog 148 [Bv t,Ak sets] (.tup [Ad (A8 t sets),.bool (B8 (A8 t sets))]):=by
 obtain ⟨bs,dr,tk,up,sm,l⟩:=t
 match l,hl,hS with
 | [],_,hS=>exact zhl bs dr tk up sm sets hs hS
 | [p0],_,hS=>exact zhm bs dr tk up sm p0 sets hs hS
 | [p0,p1],_,hS=>exact zhn bs dr tk up sm p0 p1 sets hs hS
 | [p0,p1,p2],_,hS=>exact zho bs dr tk up sm p0 p1 p2 sets hs hS
 | [p0,p1,p2,p3],_,hS=>exact zhp bs dr tk up sm p0 p1 p2 p3 sets hs hS
 | _ :: _ :: _ :: _ :: _ :: _,hl,_=>simp at hl
def midG (gs:List (List Span)) (k:Nat):List (List Span):=(gs.take k).map symI ++ List.replicate (gs.length - k) []
theorem z5j {gs:List (List Span)} {k:Nat} (h:k ≤ gs.length):(midG gs k).length=gs.length:=by simp [midG];omega
theorem zhq (gs:List (List Span)):midG gs gs.length=gs.map symI:=by simp [midG]
theorem zhr {gs:List (List Span)} {k:Nat} (h:k < gs.length):((midG gs k).map Ad).set k (Ad (symI (nth gs k)))=(midG gs (k + 1)).map Ad:=by
 have e:gs.length - k=(gs.length - (k + 1)) + 1:=by omega
 rw [midG,midG,take_at h,e,List.replicate_succ,List.map_append,List.set_append_right _ _ (by simp;omega)]
 simp [show min k gs.length=k by omega]
theorem zng {gs:List (List Span)} {k:Nat} (h:k < gs.length):nth (midG gs (k + 1)) k=symI (nth gs k):=by
 rw [midG,take_at h,nth,List.getD_eq_getElem?_getD,List.map_append,List.append_assoc,List.getElem?_append_right (by simp;omega)]
 simp [show min k gs.length=k by omega]
theorem zhs (n:Nat):Ay (List.replicate n AV.nilS)=true:=by
 induction n with
 | zero=>rfl
 | succ n ih=>simp [List.replicate_succ,Ay,AV.pure,ih]
theorem zht (l:List Grp) (gs:List (List Span)):leSL l (List.replicate gs.length .nilS) ((midG gs 0).map Ad):=by
 simp only [midG,List.take_zero,List.map_nil,List.nil_append,Nat.sub_zero,List.map_replicate]
 generalize gs.length=n
 induction n with
 | zero=>rfl
 | succ n ih=>exact ⟨⟨by decide,rfl⟩,ih⟩
def Mr (gs:List (List Span)) (k:Nat):Bool:=(gs.take k).all fun g=>decide (0 < ((symI g).length:Int))
theorem zhu {gs:List (List Span)} {k:Nat} (h:k < gs.length):Mr gs (k + 1)=(Mr gs k && decide (0 < ((symI (nth gs k)).length:Int))):=by
 rw [Mr,take_at h,List.all_append];simp [Mr]
def prtB (t:Term) (n:Int):Bool:=t.parts.all fun p=>Dj p n
def Ee (t:Term) (gs:List (List Span)):List Span × Bool :=
 if 4 < gs.length ∨ B6 t=false then ([],false) else if prtB t gs.length=false then ([],false) else
   if Mr gs gs.length=false then ([],true) else (A8 t (gs.map symI),B8 (A8 t (gs.map symI)))
theorem zr8 {l:List Part} {n:Int} {k:Nat} (h:k < l.length):(l.drop k).all (fun p=>Dj p n)=(Dj (nth l k) n && (l.drop (k + 1)).all fun p=>Dj p n):=by rw [drop_at h,List.all_cons]
theorem I4 {t:Term} {gs:List (List Span)} (h:prtB t gs.length=true) (hg:gs.length ≤ 4):Cm t.parts (gs.map symI) where
 parts p hp:=by
   rw [List.length_map]
   exact List.all_eq_true.1 h p hp
 syms s hs:=by
   obtain ⟨g,_,rfl⟩:=List.mem_map.1 hs
   exact Zf g
 many:=by simp;omega
theorem z8j (t:Term) (gs:List (List Span)) (ht:t.parts.length < 1000000000000) (hg:∀ g ∈ gs,g.length ≤ 1000000) (hl:gs.length ≤ 9223372036854775807) :
   PC Tryz.prog 135 [Bv t,Ak gs] (.tup [Ad (Ee t gs).1,.bool (Ee t gs).2]):=by
 have hP:=Ae gs
 have hN:=H7 t ht
 have hY:=Zg
 refine A9 Yx ?_
 unfold Nv
 by_cases h1:4 < gs.length ∨ B6 t=false
 · rw [Ee,if_pos h1]
   (repeat' (first|(simp (disch:=omega) only [push_cast,↓zz,seval])|(with_reducible first|refine And.intro ?_ ?_|(first|refine Ab ?_ ?_|refine Aa ?_ ?_)<;>intro hc<;>(try simp only [push_cast] at hc)|refine eK hN ?_|refine eQ hN ?_|refine eG hN ?_)|((with_reducible first|refine cK hN ?_|refine cQ hN ?_|refine cG hN ?_);(simp (disch:=omega) only [push_cast,↓zz,seval]);(fail_if_success with_reducible change False))|omega|with_reducible intro _))
   all_goals first
     | ((repeat' (first|(simp (disch:=omega) only [push_cast,↓zz,seval,Bo])|omega|(with_reducible refine And.intro ?_ ?_)));done)
     | (exfalso;rcases h1 with h1|h1<;>first|omega|simp_all)
 have h4:gs.length ≤ 4:=by omega
 have hn:B6 t=true:=by simpa using (not_or.1 h1).2
 (repeat' (first|(simp (disch:=omega) only [push_cast,↓zz,seval,hn])|(with_reducible first|refine And.intro ?_ ?_|(first|refine Ab ?_ ?_|refine Aa ?_ ?_)<;>intro hc<;>(try simp only [push_cast] at hc)|refine eK hN ?_|refine eQ hN ?_|refine eG hN ?_)|((with_reducible first|refine cK hN ?_|refine cQ hN ?_|refine cG hN ?_);(simp (disch:=omega) only [push_cast,↓zz,seval,hn]);(fail_if_success with_reducible change False))|omega|with_reducible intro _))
 refine Ao (Ap (fun (k:Nat)=>k ≤ gs.length) (fun k=>gs.length - k)
   (fun k=>[(1,Ak gs),(2,.ptr 0 1 0 0),(6,.bool (Mr gs k)),(7,.ref 1 1 0 gs.length),(23,Ak gs),(24,.int .i64 gs.length),(25,.int .i64 k)]) (fun k=>[⟨6,1,true,[Bv t]⟩,⟨1,1,true,(midG gs k).map Ad⟩]) (fun env _=>[Aw 1 (env 2),Aw 1 (env 7)]) 0 (by simp) ?_ ?_)
 · have e:=zht
   have hr:Ay (List.replicate gs.length AV.nilS)=true:=zhs gs.length
   have hs0:Mr gs 0=true:=rfl
   (repeat' (first|(simp (disch:=omega) only [push_cast,↓zz,seval,hs0,hP,hr])|(with_reducible first|refine And.intro ?_ ?_|(first|refine Ab ?_ ?_|refine Aa ?_ ?_)<;>intro hc<;>(try simp only [push_cast] at hc))|omega|with_reducible intro _))
   all_goals exact e _ gs
 intro k hk
 have hml:=z5j hk
 have hpm:=Ae (midG gs k)
 rcases Nat.lt_or_ge k gs.length with hkl|hkl
 · have hM:=Qk (nth gs k) [⟨0,1114111⟩] (by have:=hg _ (Au hkl);omega) (by simp)
   rw [zhj] at hM
   have e1:=zhr hkl
   have e2:=zng hkl
   have e3:=zhu hkl
   have hpm2:=Ae (midG gs (k + 1))
   have hml2:=z5j (gs:=gs) (k:=k + 1) (by omega)
   refine W_T ?_
   (repeat' (first|(simp (disch:=omega) only [push_cast,↓zz,seval,hP,hpm,hpm2,hml,hml2,e1,e2])|(with_reducible first|refine And.intro ?_ ?_|(first|refine Ab ?_ ?_|refine Aa ?_ ?_)<;>intro hc<;>(try simp only [push_cast] at hc)|refine eK hY ?_|refine eQ hY ?_|refine eG hY ?_|refine eK hM ?_|refine eQ hM ?_|refine eG hM ?_)|((with_reducible first|refine cK hY ?_|refine cQ hY ?_|refine cG hY ?_);(simp (disch:=omega) only [push_cast,↓zz,seval,hP,hpm,hpm2,hml,hml2,e1,e2]);(fail_if_success with_reducible change False))|((with_reducible first|refine cK hM ?_|refine cQ hM ?_|refine cG hM ?_);(simp (disch:=omega) only [push_cast,↓zz,seval,hP,hpm,hpm2,hml,hml2,e1,e2]);(fail_if_success with_reducible change False))|omega|with_reducible intro _))
   all_goals
     refine ⟨k + 1,?_⟩
     (repeat' (first|(simp (disch:=omega) only [push_cast,↓zz,seval,e3])|(with_reducible first|refine And.intro ?_ ?_|(first|refine Ab ?_ ?_|refine Aa ?_ ?_)<;>intro hc<;>(try simp only [push_cast] at hc))|omega|with_reducible intro _))
   all_goals (simp only [*,Bool.true_and,Bool.false_and])
 · obtain rfl:k=gs.length:=by omega
   rw [zhq] at *
   refine W_T ?_
   (repeat' (first|(simp (disch:=omega) only [push_cast,↓zz,seval,hP,hpm])|(with_reducible first|refine And.intro ?_ ?_|(first|refine Ab ?_ ?_|refine Aa ?_ ?_)<;>intro hc<;>(try simp only [push_cast] at hc))|omega|with_reducible intro _))
   refine Ao (Ap (fun (k:Nat)=>k ≤ t.parts.length∧prtB t gs.length=(t.parts.drop k).all fun p=>Dj p gs.length) (fun k=>t.parts.length - k)
     (fun k=>[(1,Ak gs),(2,.ptr 0 1 0 0),(6,.bool (Mr gs gs.length)),(7,Ak (gs.map symI)),(47,Be t.parts),(48,.int .i64 t.parts.length),(49,.int .i64 k)]) (fun k=>[⟨6,1,true,[Bv t]⟩]) (fun env _=>[Aw 1 (env 2)]) 0 ⟨by simp,rfl⟩ ?_ ?_)
   · have et:List.take gs.length (gs.map symI)=gs.map symI:=List.take_of_length_le (by simp)
     (repeat' (first|(simp (disch:=omega) only [push_cast,↓zz,seval,hP,hpm,et])|(with_reducible first|refine And.intro ?_ ?_|(first|refine Ab ?_ ?_|refine Aa ?_ ?_)<;>intro hc<;>(try simp only [push_cast] at hc))|omega|with_reducible intro _))
   rintro k ⟨k1,k2⟩
   rcases Nat.lt_or_ge k t.parts.length with hkp|hkp
   · have hR:=Iz (nth t.parts k) gs.length
     rw [zr8 hkp] at k2
     refine W_T ?_
     (repeat' (first|(simp (disch:=omega) only [push_cast,↓zz,seval,hP,hpm])|(with_reducible first|refine And.intro ?_ ?_|(first|refine Ab ?_ ?_|refine Aa ?_ ?_)<;>intro hc<;>(try simp only [push_cast] at hc)|refine eK hR ?_|refine eQ hR ?_|refine eG hR ?_)|((with_reducible first|refine cK hR ?_|refine cQ hR ?_|refine cG hR ?_);(simp (disch:=omega) only [push_cast,↓zz,seval,hP,hpm]);(fail_if_success with_reducible change False))|omega|with_reducible intro _))
     · have hp:prtB t gs.length=false:=by rw [k2];simp [*]
       rw [Ee,if_neg h1,if_pos hp]
       (repeat' (first|(simp (disch:=omega) only [push_cast,↓zz,seval,Bo])|omega|(with_reducible refine And.intro ?_ ?_)))
     · exact ⟨k + 1,by push_cast,⟨by omega,by rw [k2];simp [*]⟩,by omega⟩
   · rw [List.drop_of_length_le hkp] at k2
     have hp:prtB t gs.length=true:=k2
     have hnum:=hn
     simp only [B6,Bool.and_eq_true,decide_eq_true_eq] at hnum
     have hV:=z2a t (gs.map symI) hnum.2.2 hnum.1.1.2 (I4 hp h4)
     have hI:Ee t gs=if Mr gs gs.length=false then ([],true) else (A8 t (gs.map symI),B8 (A8 t (gs.map symI))):=by rw [Ee,if_neg h1,if_neg (by simp [hp])]
     refine W_T ?_
     (repeat' (first|(simp (disch:=omega) only [push_cast,↓zz,seval,hP,hpm])|(with_reducible first|refine And.intro ?_ ?_|(first|refine Ab ?_ ?_|refine Aa ?_ ?_)<;>intro hc<;>(try simp only [push_cast] at hc)|refine eK hV ?_|refine eQ hV ?_|refine eG hV ?_)|((with_reducible first|refine cK hV ?_|refine cQ hV ?_|refine cG hV ?_);(simp (disch:=omega) only [push_cast,↓zz,seval,hP,hpm]);(fail_if_success with_reducible change False))|omega|with_reducible intro _))
     all_goals
       rw [hI]
       first
         | rw [if_pos (by assumption)]
         | rw [if_neg (by simp [*])]
       (repeat' (first|(simp (disch:=omega) only [push_cast,↓zz,seval,Bo])|omega|(with_reducible refine And.intro ?_ ?_)))
     all_goals trace_state
def Ef (t:Term) (gs:List (List Span)):List Span × Bool :=
 if (Ee t gs).2=false then ([],false) else if (Ee t gs).1.length=0 then ([],true) else (Dw (imgL t.outer (Ee t gs).1) t.base,true)
theorem zcu (t:Term) (gs:List (List Span)) (h:B5 t.sum=true):(Ee t gs).1.length ≤ 2147483649:=by
 unfold Ee
 repeat' split
 all_goals first|(simp;done)|skip
 unfold A8
 have key:∀ (pl:List Int) (out:List Span),Acc out→Acc (pl.foldl (Bc t.parts (gs.map symI)) out):=fun pl=>by
   induction pl with
   | nil=>exact fun out h=>h
   | cons a pl ih=>exact fun out h=>ih _ (z5h _ _)
 exact (key _ _ (Cu h)).2
theorem z8k (t:Term) (gs:List (List Span)) (ht:t.parts.length < 1000000000000) (hg:∀ g ∈ gs,g.length ≤ 1000000) (hl:gs.length ≤ 9223372036854775807) :
   PC Tryz.prog 115 [Bv t,Ak gs] (.tup [Ad (Ef t gs).1,.bool (Ef t gs).2]):=by
 have hP:=Ae gs
 have hI:=z8j t gs ht hg hl
 have hO:=Gt t
 have hlen:(Ee t gs).2=true→(Ee t gs).1.length ≤ 2147483649:=fun h=>by
   by_cases hs:B5 t.sum=true
   · exact zcu t gs hs
   · have:B6 t=false:=by simp [B6,hs]
     rw [Ee,if_pos (.inr this)] at h
     cases h
 refine A9 Yt ?_
 unfold Nr
 rcases Bool.eq_false_or_eq_true (Ee t gs).2 with h2|h2
 · have hl2:=hlen h2
   have hA:=Wc t.outer (Ee t gs).1
   have hM:=To t.outer (Ee t gs).1 (by omega)
   have hV:=zco (imgL t.outer (Ee t gs).1) t.base (by have:=hA.2;omega)
   (repeat' (first|(simp (disch:=omega) only [push_cast,↓zz,seval,hP,h2])|(with_reducible first|refine And.intro ?_ ?_|(first|refine Ab ?_ ?_|refine Aa ?_ ?_)<;>intro hc<;>(try simp only [push_cast] at hc)|refine eK hI ?_|refine eQ hI ?_|refine eG hI ?_|refine eK hO ?_|refine eQ hO ?_|refine eG hO ?_|refine eK hM ?_|refine eQ hM ?_|refine eG hM ?_|refine eK hV ?_|refine eQ hV ?_|refine eG hV ?_)|((with_reducible first|refine cK hI ?_|refine cQ hI ?_|refine cG hI ?_);(simp (disch:=omega) only [push_cast,↓zz,seval,hP,h2]);(fail_if_success with_reducible change False))|((with_reducible first|refine cK hO ?_|refine cQ hO ?_|refine cG hO ?_);(simp (disch:=omega) only [push_cast,↓zz,seval,hP,h2]);(fail_if_success with_reducible change False))|((with_reducible first|refine cK hM ?_|refine cQ hM ?_|refine cG hM ?_);(simp (disch:=omega) only [push_cast,↓zz,seval,hP,h2]);(fail_if_success with_reducible change False))|((with_reducible first|refine cK hV ?_|refine cQ hV ?_|refine cG hV ?_);(simp (disch:=omega) only [push_cast,↓zz,seval,hP,h2]);(fail_if_success with_reducible change False))|omega|with_reducible intro _))
   all_goals
     rw [Ef,if_neg (by simp [h2])]
     first
       | rw [if_pos (by omega)]
       | rw [if_neg (by omega)]
     (repeat' (first|(simp (disch:=omega) only [push_cast,↓zz,seval,Bo])|omega|(with_reducible refine And.intro ?_ ?_)))
 · (repeat' (first|(simp (disch:=omega) only [push_cast,↓zz,seval,hP,h2])|(with_reducible first|refine And.intro ?_ ?_|(first|refine Ab ?_ ?_|refine Aa ?_ ?_)<;>intro hc<;>(try simp only [push_cast] at hc)|refine eK hI ?_|refine eQ hI ?_|refine eG hI ?_)|((with_reducible first|refine cK hI ?_|refine cQ hI ?_|refine cG hI ?_);(simp (disch:=omega) only [push_cast,↓zz,seval,hP,h2]);(fail_if_success with_reducible change False))|omega|with_reducible intro _))
   all_goals
     rw [Ef,if_pos h2]
     (repeat' (first|(simp (disch:=omega) only [push_cast,↓zz,seval,Bo])|omega|(with_reducible refine And.intro ?_ ?_)))
def Qu (t:Term) (i o:Int) (gs:List (List Span)):Bool:=Er t i o gs.length && ((Ef t gs).2 && decide (Ej (Ef t gs).1 (domL o)=[]))
theorem zcv (t:Term) (gs:List (List Span)):(Ef t gs).1.length ≤ 2147483649:=by
 unfold Ef
 repeat' split
 all_goals first|(simp;done)|skip
 have h1:=(Wc t.outer (Ee t gs).1).2
 have h2:=zhk (imgL t.outer (Ee t gs).1) t.base
 simp only
 omega
theorem Wd (s:Int):(domL s).length ≤ 2:=by unfold domL;split<;>(try split)<;>simp
theorem zcw (t:Term) (i o:Int) (gs:List (List Span)) (ht:t.parts.length < 1000000000000) (hg:∀ g ∈ gs,g.length ≤ 1000000) (hl:gs.length ≤ 9223372036854775807) :
   PC Tryz.prog 95 [Bv t,.int .i64 i,.int .i64 o,Ak gs] (.bool (Qu t i o gs)):=by
 have hP:=Ae gs
 have hR:=z7p t i o gs.length ht
 have hI:=z8k t gs ht hg hl
 have hD:=D6 o
 have hW:=Ql (Ef t gs).1 (domL o) (by have:=zcv t gs;omega) (by have:=Wd o;omega)
 refine A9 z0r ?_
 unfold Ps Qu
 (repeat' (first|(simp (disch:=omega) only [push_cast,↓zz,seval,hP])|(with_reducible first|refine And.intro ?_ ?_|(first|refine Ab ?_ ?_|refine Aa ?_ ?_)<;>intro hc<;>(try simp only [push_cast] at hc)|refine eK hR ?_|refine eQ hR ?_|refine eG hR ?_|refine eK hI ?_|refine eQ hI ?_|refine eG hI ?_|refine eK hD ?_|refine eQ hD ?_|refine eG hD ?_|refine eK hW ?_|refine eQ hW ?_|refine eG hW ?_)|((with_reducible first|refine cK hR ?_|refine cQ hR ?_|refine cG hR ?_);(simp (disch:=omega) only [push_cast,↓zz,seval,hP]);(fail_if_success with_reducible change False))|((with_reducible first|refine cK hI ?_|refine cQ hI ?_|refine cG hI ?_);(simp (disch:=omega) only [push_cast,↓zz,seval,hP]);(fail_if_success with_reducible change False))|((with_reducible first|refine cK hD ?_|refine cQ hD ?_|refine cG hD ?_);(simp (disch:=omega) only [push_cast,↓zz,seval,hP]);(fail_if_success with_reducible change False))|((with_reducible first|refine cK hW ?_|refine cQ hW ?_|refine cG hW ?_);(simp (disch:=omega) only [push_cast,↓zz,seval,hP]);(fail_if_success with_reducible change False))|omega|with_reducible intro _))
 all_goals simp only [*,Bool.true_and,Bool.false_and]
def Jr:Int→List Span→Bool
 | _,[]=>true
 | last,s :: l=>decide (s.lo ≤ s.hi∧-1073741824 ≤ s.lo∧s.hi ≤ 1073741824∧last + 1 < s.lo) && Jr s.hi l
def Qv (g:List Span):Bool:=Jr (-1073741826) g
theorem z8l (g:List Span) (hl:g.length ≤ 9223372036854775807):PC Tryz.prog 93 [Ad g] (.bool (Qv g)):=by
 refine A9 Yq ?_
 unfold No
 (repeat' (first|(simp (disch:=omega) only [push_cast,↓zz,seval])|(with_reducible first|refine And.intro ?_ ?_|(first|refine Ab ?_ ?_|refine Aa ?_ ?_)<;>intro hc<;>(try simp only [push_cast] at hc))|omega|with_reducible intro _))
 refine Ao (Ap (fun (s:Nat × Int)=>s.1 ≤ g.length∧Qv g=Jr s.2 (g.drop s.1)∧-1073741826 ≤ s.2∧s.2 ≤ 1073741824) (fun s=>g.length - s.1)
   (fun s=>[(3,.int .i64 s.2),(6,Ad g),(7,.int .i64 g.length),(8,.int .i64 s.1)]) (fun s=>[]) (fun _ _=>[]) (0,-1073741826) ⟨by simp,rfl,by simp,by simp⟩ ?_ ?_)
 · (repeat' (first|(simp (disch:=omega) only [push_cast,↓zz,seval])|(with_reducible first|refine And.intro ?_ ?_|(first|refine Ab ?_ ?_|refine Aa ?_ ?_)<;>intro hc<;>(try simp only [push_cast] at hc))|omega|with_reducible intro _))
 rintro ⟨k,last⟩ ⟨h1,h2,h3,h4⟩
 simp only at h1 h2 h3 h4
 rcases Nat.lt_or_ge k g.length with hk|hk
 · rw [drop_at hk,Jr] at h2
   generalize hxe:nth g k=x at *
   have hw:IntKind.i64.wrap (last + 1)=last + 1:=IntWalk.i64_in _ (by omega)
   refine W_T ?_
   (repeat' (first|(simp (disch:=omega) only [push_cast,↓zz,seval,hw,hxe])|(with_reducible first|refine And.intro ?_ ?_|(first|refine Ab ?_ ?_|refine Aa ?_ ?_)<;>intro hc<;>(try simp only [push_cast] at hc))|omega|with_reducible intro _))
   all_goals first
     | (rw [h2,decide_eq_false (by omega),Bool.false_and];done)
     | exact ⟨(k + 1,x.hi),⟨rfl,by push_cast⟩,⟨by simp only;omega,by rw [h2,decide_eq_true (by omega),Bool.true_and],by simp only;omega,by simp only;omega⟩,by simp only;omega⟩
 · rw [List.drop_of_length_le hk,Jr] at h2
   refine W_T ?_
   (repeat' (first|(simp (disch:=omega) only [push_cast,↓zz,seval,h2])|(with_reducible first|refine And.intro ?_ ?_|(first|refine Ab ?_ ?_|refine Aa ?_ ?_)<;>intro hc<;>(try simp only [push_cast] at hc))|omega|with_reducible intro _))
   all_goals trace_state
def Ib (i:Int) (g:List Span):Bool:=!decide ((g.length:Int)=0) && (decide ((g.length:Int) ≤ 64) && (Qv g && decide (Ej g (domL i)=[])))
def Cy (i:Int) (gs:List (List Span)):Bool:=decide ((gs.length:Int) ≤ 4) && gs.all (Ib i)
theorem Qw (i:Int) (gs:List (List Span)):PC Tryz.prog 75 [.int .i64 i,Ak gs] (.bool (Cy i gs)):=by
 have hP:=Ae gs
 have hD:=D6 i
 have hdl:=Wd i
 refine A9 Vf ?_
 unfold K5
 by_cases h4:4 < gs.length
 · rw [Cy,decide_eq_false (by omega),Bool.false_and]
   (repeat' (first|(simp (disch:=omega) only [push_cast,↓zz,seval])|(with_reducible first|refine And.intro ?_ ?_|(first|refine Ab ?_ ?_|refine Aa ?_ ?_)<;>intro hc<;>(try simp only [push_cast] at hc))|omega|with_reducible intro _))
 rw [Cy,decide_eq_true (by omega),Bool.true_and]
 (repeat' (first|(simp (disch:=omega) only [push_cast,↓zz,seval])|(with_reducible first|refine And.intro ?_ ?_|(first|refine Ab ?_ ?_|refine Aa ?_ ?_)<;>intro hc<;>(try simp only [push_cast] at hc)|refine eK hD ?_|refine eQ hD ?_|refine eG hD ?_)|((with_reducible first|refine cK hD ?_|refine cQ hD ?_|refine cG hD ?_);(simp (disch:=omega) only [push_cast,↓zz,seval]);(fail_if_success with_reducible change False))|omega|with_reducible intro _))
 refine Ao (Ap (fun (k:Nat)=>k ≤ gs.length∧gs.all (Ib i)=(gs.drop k).all (Ib i)) (fun k=>gs.length - k)
   (fun k=>[(5,Ad (domL i)),(13,Ak gs),(14,.int .i64 gs.length),(15,.int .i64 k)]) (fun s=>[]) (fun _ _=>[]) 0 ⟨by simp,rfl⟩ ?_ ?_)
 · (repeat' (first|(simp (disch:=omega) only [push_cast,↓zz,seval,hP])|(with_reducible first|refine And.intro ?_ ?_|(first|refine Ab ?_ ?_|refine Aa ?_ ?_)<;>intro hc<;>(try simp only [push_cast] at hc))|omega|with_reducible intro _))
 rintro k ⟨h1,h2⟩
 rcases Nat.lt_or_ge k gs.length with hk|hk
 · rw [drop_at hk,List.all_cons,Ib] at h2
   generalize hge:nth gs k=g at *
   refine W_T ?_
   by_cases hl:(g.length:Int)=0
   · rw [decide_eq_true hl,Bool.not_true,Bool.false_and,Bool.false_and] at h2
     (repeat' (first|(simp (disch:=omega) only [push_cast,↓zz,seval,hP,hge,h2])|(with_reducible first|refine And.intro ?_ ?_|(first|refine Ab ?_ ?_|refine Aa ?_ ?_)<;>intro hc<;>(try simp only [push_cast] at hc))|omega|with_reducible intro _))
   by_cases hl2:(g.length:Int) ≤ 64
   · rw [decide_eq_false hl,decide_eq_true hl2,Bool.not_false,Bool.true_and,Bool.true_and] at h2
     have hW:=Ql g (domL i) (by omega) (by omega)
     have hC:=z8l g (by omega)
     (repeat' (first|(simp (disch:=omega) only [push_cast,↓zz,seval,hP,hge])|(with_reducible first|refine And.intro ?_ ?_|(first|refine Ab ?_ ?_|refine Aa ?_ ?_)<;>intro hc<;>(try simp only [push_cast] at hc)|refine eK hC ?_|refine eQ hC ?_|refine eG hC ?_|refine eK hW ?_|refine eQ hW ?_|refine eG hW ?_)|((with_reducible first|refine cK hC ?_|refine cQ hC ?_|refine cG hC ?_);(simp (disch:=omega) only [push_cast,↓zz,seval,hP,hge]);(fail_if_success with_reducible change False))|((with_reducible first|refine cK hW ?_|refine cQ hW ?_|refine cG hW ?_);(simp (disch:=omega) only [push_cast,↓zz,seval,hP,hge]);(fail_if_success with_reducible change False))|omega|with_reducible intro _))
     all_goals first
       | (rw [h2];simp [*];done)
       | exact ⟨k + 1,by push_cast,⟨by omega,by rw [h2];simp [*]⟩,by omega⟩
   · rw [decide_eq_false hl2,Bool.false_and,Bool.and_false,Bool.false_and] at h2
     (repeat' (first|(simp (disch:=omega) only [push_cast,↓zz,seval,hP,hge,h2])|(with_reducible first|refine And.intro ?_ ?_|(first|refine Ab ?_ ?_|refine Aa ?_ ?_)<;>intro hc<;>(try simp only [push_cast] at hc))|omega|with_reducible intro _))
 · rw [List.drop_of_length_le hk,List.all_nil] at h2
   refine W_T ?_
   (repeat' (first|(simp (disch:=omega) only [push_cast,↓zz,seval,hP,h2])|(with_reducible first|refine And.intro ?_ ?_|(first|refine Ab ?_ ?_|refine Aa ?_ ?_)<;>intro hc<;>(try simp only [push_cast] at hc))|omega|with_reducible intro _))
   all_goals trace_state
def Gw (d:Desc) (s:Int):Bool:=decide (0 ≤ s) && decide (s < d.states)
theorem I5 (d:Desc) (s:Int):PC Tryz.prog 74 [By d,.int .i64 s] (.bool (Gw d s)):=by
 refine A9 Yh ?_
 unfold Nf Gw
 (repeat' (first|(simp (disch:=omega) only [push_cast,↓zz,seval])|(with_reducible first|refine And.intro ?_ ?_|(first|refine Ab ?_ ?_|refine Aa ?_ ?_)<;>intro hc<;>(try simp only [push_cast] at hc))|omega|with_reducible intro _))
 all_goals simp only [*,decide_true,decide_false,Bool.true_and,Bool.false_and]
def Ms (d:Desc):Bool:=decide (0 < ((domL d.in_).length:Int)) && (decide (0 < ((domL d.out).length:Int)) && (decide (1 ≤ d.states) && (decide (d.states ≤ 1024) && (Gw d d.start && (decide ((d.rules.length:Int) ≤ 4096) && decide ((d.finals.length:Int) ≤ 4096))))))
theorem zcx (d:Desc):PC Tryz.prog 72 [By d] (.bool (Ms d)):=by
 have h1:=D6 d.in_
 have h2:=D6 d.out
 have h3:=I5 d d.start
 refine A9 z0p ?_
 unfold Pp Ms
 (repeat' (first|(simp (disch:=omega) only [push_cast,↓zz,seval])|(with_reducible first|refine And.intro ?_ ?_|(first|refine Ab ?_ ?_|refine Aa ?_ ?_)<;>intro hc<;>(try simp only [push_cast] at hc)|refine eK h1 ?_|refine eQ h1 ?_|refine eG h1 ?_|refine eK h2 ?_|refine eQ h2 ?_|refine eG h2 ?_|refine eK h3 ?_|refine eQ h3 ?_|refine eG h3 ?_)|((with_reducible first|refine cK h1 ?_|refine cQ h1 ?_|refine cG h1 ?_);(simp (disch:=omega) only [push_cast,↓zz,seval]);(fail_if_success with_reducible change False))|((with_reducible first|refine cK h2 ?_|refine cQ h2 ?_|refine cG h2 ?_);(simp (disch:=omega) only [push_cast,↓zz,seval]);(fail_if_success with_reducible change False))|((with_reducible first|refine cK h3 ?_|refine cQ h3 ?_|refine cG h3 ?_);(simp (disch:=omega) only [push_cast,↓zz,seval]);(fail_if_success with_reducible change False))|omega|with_reducible intro _))
 all_goals simp only [*,decide_true,decide_false,Bool.true_and,Bool.false_and]
 all_goals trace_state
def De (d:Desc) (out:List Term) (gs:List (List Span)):Bool:=decide ((out.length:Int) ≤ 64) && out.all fun t=>Qu t d.in_ d.out gs
theorem Qy (d:Desc) (out:List Term) (gs:List (List Span)) (ho:∀ t ∈ out,t.parts.length < 1000000000000) (hg:∀ g ∈ gs,g.length ≤ 1000000) (hl:gs.length ≤ 9223372036854775807) :
   PC Tryz.prog 76 [By d,Cz out,Ak gs] (.bool (De d out gs)):=by
 have hP:=Ae gs
 have hT:=Bb out
 refine A9 Vg ?_
 unfold K6
 by_cases h4:64 < out.length
 · rw [De,decide_eq_false (by omega),Bool.false_and]
   (repeat' (first|(simp (disch:=omega) only [push_cast,↓zz,seval])|(with_reducible first|refine And.intro ?_ ?_|(first|refine Ab ?_ ?_|refine Aa ?_ ?_)<;>intro hc<;>(try simp only [push_cast] at hc))|omega|with_reducible intro _))
 rw [De,decide_eq_true (by omega),Bool.true_and]
 (repeat' (first|(simp (disch:=omega) only [push_cast,↓zz,seval])|(with_reducible first|refine And.intro ?_ ?_|(first|refine Ab ?_ ?_|refine Aa ?_ ?_)<;>intro hc<;>(try simp only [push_cast] at hc))|omega|with_reducible intro _))
 refine Ao (Ap (fun (k:Nat)=>k ≤ out.length∧(out.all fun t=>Qu t d.in_ d.out gs)=(out.drop k).all fun t=>Qu t d.in_ d.out gs) (fun k=>out.length - k)
   (fun k=>[(2,Ak gs),(3,.ptr 0 1 0 0),(12,Cz out),(13,.int .i64 out.length),(14,.int .i64 k)]) (fun s=>[⟨6,1,true,[By d]⟩]) (fun env _=>[Aw 1 (env 3)]) 0 ⟨by simp,rfl⟩ ?_ ?_)
 · (repeat' (first|(simp (disch:=omega) only [push_cast,↓zz,seval,hP,hT])|(with_reducible first|refine And.intro ?_ ?_|(first|refine Ab ?_ ?_|refine Aa ?_ ?_)<;>intro hc<;>(try simp only [push_cast] at hc))|omega|with_reducible intro _))
 rintro k ⟨h1,h2⟩
 rcases Nat.lt_or_ge k out.length with hk|hk
 · rw [drop_at hk,List.all_cons] at h2
   have hF:=zcw (nth out k) d.in_ d.out gs (ho _ (Au hk)) hg hl
   refine W_T ?_
   (repeat' (first|(simp (disch:=omega) only [push_cast,↓zz,seval,hP,hT])|(with_reducible first|refine And.intro ?_ ?_|(first|refine Ab ?_ ?_|refine Aa ?_ ?_)<;>intro hc<;>(try simp only [push_cast] at hc)|refine eK hF ?_|refine eQ hF ?_|refine eG hF ?_)|((with_reducible first|refine cK hF ?_|refine cQ hF ?_|refine cG hF ?_);(simp (disch:=omega) only [push_cast,↓zz,seval,hP,hT]);(fail_if_success with_reducible change False))|omega|with_reducible intro _))
   all_goals first
     | (rw [h2];simp [*];done)
     | exact ⟨k + 1,by push_cast,⟨by omega,by rw [h2];simp [*]⟩,by omega⟩
 · rw [List.drop_of_length_le hk,List.all_nil] at h2
   refine W_T ?_
   (repeat' (first|(simp (disch:=omega) only [push_cast,↓zz,seval,hP,hT,h2])|(with_reducible first|refine And.intro ?_ ?_|(first|refine Ab ?_ ?_|refine Aa ?_ ?_)<;>intro hc<;>(try simp only [push_cast] at hc))|omega|with_reducible intro _))
   all_goals trace_state
def eatB (n e:Int):Bool:=!decide (e < min n 1) && !decide (n < e)
def Ek (d:Desc) (r:Rule):Bool:=Gw d r.from_ && (Gw d r.to_ && (Cy d.in_ r.guards && (eatB r.guards.length r.eat && De d r.out r.guards)))
theorem Fb {i:Int} {gs:List (List Span)} (h:Cy i gs=true):gs.length ≤ 4∧∀ g ∈ gs,g.length ≤ 64:=by
 simp only [Cy,Bool.and_eq_true,decide_eq_true_eq] at h
 refine ⟨by omega,fun g hg=>?_⟩
 have:=List.all_eq_true.1 h.2 g hg
 simp only [Ib,Bool.and_eq_true,decide_eq_true_eq] at this
 omega
theorem zcy (d:Desc) (r:Rule) (ho:∀ t ∈ r.out,t.parts.length < 1000000000000):PC Tryz.prog 73 [By d,Md r] (.bool (Ek d r)):=by
 have h1:=I5 d r.from_
 have h2:=I5 d r.to_
 have h3:=Qw d.in_ r.guards
 have hP:=Ae r.guards
 have hT:=Bb r.out
 refine A9 z0q ?_
 unfold Pq Ek eatB
 cases hg:Cy d.in_ r.guards with
 | false =>
   rw [hg] at h3
   (repeat' (first|(simp (disch:=omega) only [push_cast,↓zz,seval,hP,hT])|(with_reducible first|refine And.intro ?_ ?_|(first|refine Ab ?_ ?_|refine Aa ?_ ?_)<;>intro hc<;>(try simp only [push_cast] at hc)|refine eK h1 ?_|refine eQ h1 ?_|refine eG h1 ?_|refine eK h2 ?_|refine eQ h2 ?_|refine eG h2 ?_|refine eK h3 ?_|refine eQ h3 ?_|refine eG h3 ?_)|((with_reducible first|refine cK h1 ?_|refine cQ h1 ?_|refine cG h1 ?_);(simp (disch:=omega) only [push_cast,↓zz,seval,hP,hT]);(fail_if_success with_reducible change False))|((with_reducible first|refine cK h2 ?_|refine cQ h2 ?_|refine cG h2 ?_);(simp (disch:=omega) only [push_cast,↓zz,seval,hP,hT]);(fail_if_success with_reducible change False))|((with_reducible first|refine cK h3 ?_|refine cQ h3 ?_|refine cG h3 ?_);(simp (disch:=omega) only [push_cast,↓zz,seval,hP,hT]);(fail_if_success with_reducible change False))|omega|with_reducible intro _))
   all_goals simp only [*,decide_true,decide_false,Bool.true_and,Bool.false_and,Bool.and_false]
 | true =>
   rw [hg] at h3
   obtain ⟨g1,g2⟩:=Fb hg
   have h4:=Qy d r.out r.guards ho (fun g hg=>by have:=g2 g hg;omega) (by omega)
   (repeat' (first|(simp (disch:=omega) only [push_cast,↓zz,seval,hP,hT])|(with_reducible first|refine And.intro ?_ ?_|(first|refine Ab ?_ ?_|refine Aa ?_ ?_)<;>intro hc<;>(try simp only [push_cast] at hc)|refine eK h1 ?_|refine eQ h1 ?_|refine eG h1 ?_|refine eK h2 ?_|refine eQ h2 ?_|refine eG h2 ?_|refine eK h3 ?_|refine eQ h3 ?_|refine eG h3 ?_|refine eK h4 ?_|refine eQ h4 ?_|refine eG h4 ?_)|((with_reducible first|refine cK h1 ?_|refine cQ h1 ?_|refine cG h1 ?_);(simp (disch:=omega) only [push_cast,↓zz,seval,hP,hT]);(fail_if_success with_reducible change False))|((with_reducible first|refine cK h2 ?_|refine cQ h2 ?_|refine cG h2 ?_);(simp (disch:=omega) only [push_cast,↓zz,seval,hP,hT]);(fail_if_success with_reducible change False))|((with_reducible first|refine cK h3 ?_|refine cQ h3 ?_|refine cG h3 ?_);(simp (disch:=omega) only [push_cast,↓zz,seval,hP,hT]);(fail_if_success with_reducible change False))|((with_reducible first|refine cK h4 ?_|refine cQ h4 ?_|refine cG h4 ?_);(simp (disch:=omega) only [push_cast,↓zz,seval,hP,hT]);(fail_if_success with_reducible change False))|omega|with_reducible intro _))
   all_goals simp only [*,decide_true,decide_false,Bool.true_and,Bool.false_and,Bool.and_false,Bool.not_true,Bool.not_false,Bool.and_true]
   all_goals trace_state
abbrev z2b (v:Nat) (l:List Int):Grp:=⟨1,v,l.isEmpty,l.map (AV.int .i64)⟩
def famF (n:Nat) (V:Nat→Nat) (D:Nat→List Int):List Grp:=(List.range n).map fun i=>z2b (V i) (D i)
def famT (n:Nat) (V:Nat→Nat) (D:Nat→List Int):List AV:=(List.range n).map fun i=>AV.ref (i + 3) (V i) 0 (D i).length
def famI (n:Nat) (f:Nat→Int):List AV:=(List.range n).map fun i=>AV.int .i64 (f i)
theorem Dr {α:Type} {n i:Nat} {f:Nat→α} {x:α} (h:i < n):((List.range n).map f).set i x=(List.range n).map fun j=>if j=i then x else f j:=by
 refine List.ext_getElem (by simp) fun j h1 h2=>?_
 simp only [List.length_set,List.length_map,List.length_range] at h1
 simp only [List.getElem_set,List.getElem_map,List.getElem_range]
 by_cases e:i=j
 · rw [if_pos e,if_pos e.symm]
 · rw [if_neg e,if_neg fun h=>e h.symm]
theorem Bq {α:Type} {n i:Nat} {f:Nat→α} {z:α} (h:i < n):((List.range n).map f).getD i z=f i:=by simp [List.getD,h]
theorem Kc {ks:List Nat} {G:Grp}:∀ {l:List Grp} {p i:Nat},p + i ∈ ks→Ck p ks l (l.set i G)
 | [],p,i,h=>trivial
 | a :: l,p,0,h=>⟨.inl h,sameBut_refl⟩
 | a :: l,p,i + 1,h=>⟨.inr rfl,Kc (by rwa [show p + 1 + i=p + (i + 1) by omega])⟩
where sameBut_refl {ks:List Nat}:∀ {l:List Grp} {p:Nat},Ck p ks l l
 | [],p=>trivial
 | a :: l,p=>⟨.inr rfl,sameBut_refl⟩
theorem We:∀ (l:List Grp) (G G':Grp),setQ (l ++ [G]) l.length G'=some (l ++ [G'])
 | [],_,_=>rfl
 | a :: l,G,G'=>by rw [List.cons_append,List.length_cons,setQ,We l G G'];rfl
theorem Wg:∀ (l:List Grp) (G G':Grp) {i:Nat},i < l.length→setQ (l ++ [G]) i G'=some (l.set i G' ++ [G])
 | [],_,_,i,h=>by simp at h
 | a :: l,G,G',0,h=>rfl
 | a :: l,G,G',i + 1,h=>by rw [List.cons_append,setQ,Wg l G G' (by simpa using h)];rfl
def setV (V:Nat→Nat) (i v:Nat) (j:Nat):Nat:=if j=i then v else V j
structure zr9 (d:Desc):Prop where
 st:1 ≤ d.states∧d.states ≤ 1024
 len:d.rules.length ≤ 4096
 rul:∀ r ∈ d.rules,(0 ≤ r.from_∧r.from_ < d.states)∧0 ≤ r.to_∧r.to_ < d.states
def Qz (d:Desc) (k:Nat):Env:=Dc [(1,.ptr 0 1 0 0),(3,.ref 1 1 0 d.states.toNat),(4,.ref 2 1 0 d.states.toNat),(21,F5 d.rules),(22,.int .i64 d.rules.length),(23,.int .i64 k)]
def C5 (d:Desc) (k:Nat) (V:Nat→Nat):Ac:=Abs.hl (⟨6,1,true,[By d]⟩ :: ⟨1,1,true,famT d.states.toNat V (toD (d.rules.take k))⟩ :: ⟨1,1,true,famI d.states.toNat (inD (d.rules.take k))⟩ :: famF d.states.toNat V (toD (d.rules.take k)))
def cycL (d:Desc) (k:Nat) (V:Nat→Nat):List Grp:=⟨6,1,true,[By d]⟩ :: ⟨1,1,true,famT d.states.toNat V (toD (d.rules.take k))⟩ :: ⟨1,1,true,famI d.states.toNat (inD (d.rules.take k))⟩ :: famF d.states.toNat V (toD (d.rules.take k))
theorem Tp (d:Desc) (k:Nat) (V:Nat→Nat):C5 d k V=Abs.hl (cycL d k V):=rfl
theorem Wh (d:Desc) (k:Nat) (V:Nat→Nat):(cycL d k V).length=d.states.toNat + 3:=by simp [cycL,famF]
theorem Mt (d:Desc):(By d).pure=true:=by simp [By,AV.pure,Ay,Bj,Bg]
theorem z2c (d:Desc) (k:Nat) (V:Nat→Nat):∀ G ∈ cycL d k V,ltL (cycL d k V).length G.xs:=fun G hG=>by
 rw [Wh]
 simp only [cycL,List.mem_cons] at hG
 rcases hG with rfl|rfl|rfl|hG
 · exact Ev _ _ (by simp [Ay,Mt])
 · have key:∀ (l:List Nat),(∀ i ∈ l,i < d.states.toNat)→ltL (d.states.toNat + 3) (l.map fun i=>AV.ref (i + 3) (V i) 0 (toD (d.rules.take k) i).length):=fun l=>by
     induction l with
     | nil=>exact fun _=>trivial
     | cons i l ih =>
       intro h
       exact ⟨by have:=h i (by simp);show i + 3 < _;omega,ih fun j hj=>h j (by simp [hj])⟩
   exact key _ fun i hi=>by simpa using hi
 · exact Ev _ _ (Cc.2 fun x hx=>by
     obtain ⟨i,_,rfl⟩:=List.mem_map.1 hx
     rfl)
 · obtain ⟨i,_,rfl⟩:=List.mem_map.1 hG
   exact Ev _ _ (Cw .i64 _)
theorem zcz {d:Desc} {k:Nat} {V:Nat→Nat} {env:Env} {l gar:List Grp} (hn:1 ≤ d.states) (hl':l=cycL d k V ++ gar)
   (h1:env 1=.ptr 0 1 0 0) (h3:env 3=.ref 1 1 0 d.states.toNat) (h4:env 4=.ref 2 1 0 d.states.toNat) (h21:env 21=F5 d.rules) (h22:env 22=.int .i64 d.rules.length) (h23:env 23=.int .i64 k) :
   Ent 105 0 env (Abs.hl l) (Qz d k) (C5 d k V):=by
 rw [hl',Tp]
 refine (Iw [(1,.ptr 0 1 0 0),(3,.ref 1 1 0 d.states.toNat),(4,.ref 2 1 0 d.states.toNat),(21,F5 d.rules),(22,.int .i64 d.rules.length),(23,.int .i64 k)] (fun p hp=>?_)).trans (U3 (by omega) (z2c d k V) fun i _=>?_)
 · simp only [List.mem_cons,List.not_mem_nil,or_false] at hp
   rcases hp with rfl|rfl|rfl|rfl|rfl|rfl<;>assumption
 · rw [Wh]
   have hr:ltV (d.states.toNat + 3) (F5 d.rules):=Pd _ _ (by simp [F5,AV.pure,Bj])
   simp only [Dc]
   repeat' split
   all_goals first
     | exact hr
     | trivial
     | (show _ < _;omega)
theorem zhv {n i:Nat} {V:Nat→Nat} {D:Nat→List Int} {x:Int} (h:i < n):(famT n V D).set i (.ref (i + 3) (V i + 1) 0 ((D i).length + 1))=famT n (setV V i (V i + 1)) fun p=>if p=i then D i ++ [x] else D p:=by
 rw [famT,Dr h,famT]
 refine List.map_congr_left fun j _=>?_
 by_cases e:j=i
 · subst e;simp [setV]
 · simp [setV,e]
theorem zhw {n i:Nat} {V:Nat→Nat} {D:Nat→List Int} {x:Int} (h:i < n):(famF n V D).set i ⟨1,V i + 1,false,(D i).map (AV.int .i64) ++ [.int .i64 x]⟩=famF n (setV V i (V i + 1)) fun p=>if p=i then D i ++ [x] else D p:=by
 rw [famF,Dr h,famF]
 refine List.map_congr_left fun j _=>?_
 by_cases e:j=i
 · subst e;simp [setV,z2b]
 · simp [setV,e]
theorem Oi {n j:Nat} {f:Nat→Int} {x:Int} (h:j < n):(famI n f).set j (.int .i64 x)=famI n fun p=>if p=j then x else f p:=by
 rw [famI,Dr h,famI]
 refine List.map_congr_left fun p _=>?_
 by_cases e:p=j
 · subst e;simp
 · simp [e]
theorem zhx {l:List Rule} {k i:Nat} (hk:k < l.length) (hi:(nth l k).from_=i) (he:Ei (nth l k)=true):toD (l.take (k + 1))=fun p=>if p=i then toD (l.take k) i ++ [(nth l k).to_] else toD (l.take k) p:=by
 funext p
 rw [take_at hk]
 simp only [toD,List.filter_append,List.map_append,List.filter_cons,List.filter_nil,he,Bool.true_and,hi,decide_eq_true_eq]
 by_cases e:p=i
 · subst e;simp
 · rw [if_neg (by omega),if_neg e];simp
theorem zhy {l:List Rule} {k j:Nat} (hk:k < l.length) (hj:(nth l k).to_=j) (he:Ei (nth l k)=true):inD (l.take (k + 1))=fun p=>if p=j then inD (l.take k) j + 1 else inD (l.take k) p:=by
 funext p
 rw [take_at hk]
 simp only [inD,List.filter_append,List.length_append,List.filter_cons,List.filter_nil,he,Bool.true_and,hj,decide_eq_true_eq]
 by_cases e:p=j
 · subst e;simp
 · rw [if_neg (by omega),if_neg e];simp
theorem zhz {l:List Rule} {k:Nat} (hk:k < l.length) (he:Ei (nth l k)=false):toD (l.take (k + 1))=toD (l.take k)∧inD (l.take (k + 1))=inD (l.take k):=by
 rw [take_at hk]
 refine ⟨?_,?_⟩<;>funext p<;>simp [toD,inD,he]
theorem zd0 (l:List Rule) (j:Nat):0 ≤ inD l j∧inD l j ≤ l.length:=by
 have:=List.length_filter_le (fun r=>Ei r && decide (r.to_=j)) l
 simp only [inD];omega
theorem zjh (l:List Rule) (j:Nat):(toD l j).length ≤ l.length:=by
 have:=List.length_filter_le (fun r=>Ei r && decide (r.from_=j)) l
 simp only [toD,List.length_map];omega
theorem Kd (l0:List Grp):∀ l:List Grp,Hs l0 l l
 | []=>trivial
 | G :: l=>⟨⟨rfl,rfl,id,A6 _ _⟩,Kd l0 l⟩
theorem zi0 (n:Nat):famF n (fun _=>1) (toD [])=(List.replicate n 1).map Hm:=by
 rw [List.map_replicate]
 refine List.ext_getElem (by simp [famF]) fun i h1 h2=>?_
 simp only [famF,List.getElem_map,List.getElem_range,List.getElem_replicate]
 rfl
theorem zi1 (n:Nat):famI n (inD [])=List.replicate n (.int .i64 0):=by
 refine List.ext_getElem (by simp [famI]) fun i h1 h2=>?_
 simp [famI,inD]
theorem zd1 {l:List Grp} {n:Nat} (h:∀ i,i < n→l.getD (i + 3) default=Hm 1∧i + 3 < l.length):leSL l (List.replicate n .nilS) (famT n (fun _=>1) (toD [])):=by
 have key:∀ idx:List Nat,(∀ i ∈ idx,i < n)→leSL l (List.replicate idx.length .nilS) (idx.map fun i=>AV.ref (i + 3) 1 0 (toD [] i).length):=fun idx=>by
   induction idx with
   | nil=>exact fun _=>rfl
   | cons i idx ih =>
     intro hi
     obtain ⟨h1,h2⟩:=h i (hi i (by simp))
     refine ⟨?_,ih fun j hj=>hi j (by simp [hj])⟩
     show 0=0∧(toD [] i).length=0∧(l.getD (i + 3) default).ver=1∧0 < (l.getD (i + 3) default).w∧(l.getD (i + 3) default).xs=[]∧(l.getD (i + 3) default).exact=true∧i + 3 < l.length
     rw [h1]
     exact ⟨rfl,rfl,rfl,by decide,rfl,rfl,h2⟩
 have:=key (List.range n) fun i hi=>by simpa using hi
 rwa [List.length_range] at this
theorem zd2 {d:Desc} {env:Env} (h1:env 1=.ptr 0 1 0 0) (h3:env 3=.ref 1 1 0 d.states.toNat) (h4:env 4=.ref 2 1 0 d.states.toNat) (h21:env 21=F5 d.rules) (h22:env 22=.int .i64 d.rules.length) (h23:env 23=.int .i64 0) :
   Ent 105 0 env (Abs.hl [⟨6,1,true,[By d]⟩,⟨1,1,true,List.replicate d.states.toNat .nilS⟩,⟨1,1,true,List.replicate d.states.toNat (.int .i64 0)⟩]) (Qz d 0) (C5 d 0 fun _=>1):=by
 refine (Iw [(1,.ptr 0 1 0 0),(3,.ref 1 1 0 d.states.toNat),(4,.ref 2 1 0 d.states.toNat),(21,F5 d.rules),(22,.int .i64 d.rules.length),(23,.int .i64 0)] (fun p hp=>?_)).trans
   ((z4x (List.replicate d.states.toNat 1) (fun w hw=>by have:=(List.mem_replicate.1 hw).2;omega)).trans (zjc ?_ fun i _=>Oe _ _))
 · simp only [List.mem_cons,List.not_mem_nil,or_false] at hp
   rcases hp with rfl|rfl|rfl|rfl|rfl|rfl<;>assumption
 · rw [List.take_zero,zi0,zi1]
   refine ⟨⟨rfl,rfl,id,A6 _ _⟩,⟨rfl,rfl,id,zd1 fun i hi=>?_⟩,⟨rfl,rfl,id,A6 _ _⟩,Kd _ _⟩
   refine ⟨?_,by simp;omega⟩
   rw [List.map_replicate]
   simp [List.getD,hi]
def Mu (n:Nat) (D:Nat→List Int):AV:=.lst 1 ((List.range n).map fun i=>C2 (D i))
theorem Zm {n b:Nat} {env:Env} {H H':Ac} (hn:H'.n=H.n) (h:∀ g,g < H.n→H'.at_ g=H.at_ g):Ent n b env H env H':=fun S val hb hS hv=>⟨S,rfl,.refl hb,hS.congr hn h,hv⟩
def Lv (n:Nat):List Nat:=1 :: (List.range n).map (· + 3)
theorem Zn {n i:Nat} (h:i < n):i + 3 ∈ Lv n:=List.mem_cons.2 (.inr (List.mem_map.2 ⟨i,List.mem_range.2 h,rfl⟩))
theorem zji (d:Desc) (k:Nat) (V:Nat→Nat) {i:Nat} (hi:i < d.states.toNat):(C5 d k V).at_ (i + 3)=z2b (V i) (toD (d.rules.take k) i):=by
 rw [C5,Cn]
 simp only [List.getD_cons_succ]
 exact Bq hi
theorem znh (d:Desc) (k:Nat) (V:Nat→Nat):Cr 2 ((C5 d k V).only (Lv d.states.toNat)) (.ref 1 1 0 d.states.toNat)∧frzV 2 ((C5 d k V).only (Lv d.states.toNat)) (.ref 1 1 0 d.states.toNat)=Mu d.states.toNat (toD (d.rules.take k)):=by
 have hat1:((C5 d k V).only (Lv d.states.toNat)).at_ 1=⟨1,1,true,famT d.states.toNat V (toD (d.rules.take k))⟩:=by
   show (if 1 ∈ Lv d.states.toNat then (C5 d k V).at_ 1 else ((C5 d k V).at_ 1).dead)=_
   rw [if_pos (by simp [Lv])]
   rfl
 have hat:∀ i,i < d.states.toNat→((C5 d k V).only (Lv d.states.toNat)).at_ (i + 3)=z2b (V i) (toD (d.rules.take k) i):=fun i hi=>by
   show (if i + 3 ∈ Lv d.states.toNat then (C5 d k V).at_ (i + 3) else ((C5 d k V).at_ (i + 3)).dead)=_
   rw [if_pos (Zn hi)]
   exact zji d k V hi
 have htl:(((famT d.states.toNat V (toD (d.rules.take k))).drop 0).take d.states.toNat)=famT d.states.toNat V (toD (d.rules.take k)):=by
   rw [List.drop_zero];exact List.take_of_length_le (by simp [famT])
 constructor
 · refine ⟨by rw [hat1],by rw [hat1];exact Nat.one_pos,by rw [hat1];simp [famT],fun y hy=>?_⟩
   rw [hat1,htl] at hy
   obtain ⟨i,hi,rfl⟩:=List.mem_map.1 hy
   have hi':i < d.states.toNat:=by simpa using hi
   refine ⟨by rw [hat i hi'],by rw [hat i hi'];exact Nat.one_pos,by rw [hat i hi'];simp,fun z hz=>?_⟩
   rw [hat i hi'] at hz
   obtain ⟨u,_,rfl⟩:=List.mem_map.1 (List.mem_of_mem_drop (List.mem_of_mem_take hz))
   rfl
 · show AV.lst _ _=_
   rw [hat1,htl,Mu,famT,List.map_map]
   congr 1
   refine List.map_congr_left fun i hi=>?_
   have hi':i < d.states.toNat:=by simpa using hi
   show AV.lst _ _=_
   rw [hat i hi']
   have e:(((z2b (V i) (toD (d.rules.take k) i)).xs.drop 0).take (toD (d.rules.take k) i).length).map (frzV 0 ((C5 d k V).only (Lv d.states.toNat)))=(toD (d.rules.take k) i).map (AV.int .i64):=by
     rw [List.drop_zero,List.take_of_length_le (by simp [z2b])]
     refine (List.map_congr_left fun x hx=>?_).trans (List.map_id _)
     obtain ⟨u,_,rfl⟩:=List.mem_map.1 hx
     rfl
   rw [e]
def I6 (d:Desc) (k:Nat):List (Nat × AV):=[(1,.ptr 0 1 0 0),(3,Mu d.states.toNat (toD (d.rules.take k))),(4,.ref 2 1 0 d.states.toNat),(7,.nilS),(52,.ref 2 1 0 d.states.toNat),(53,.int .i64 d.states.toNat),(54,.int .i64 0)]
theorem z8m {d:Desc} {k:Nat} {V:Nat→Nat} {env:Env} (h1:env 1=.ptr 0 1 0 0) (h3:env 3=.ref 1 1 0 d.states.toNat) (h4:env 4=.ref 2 1 0 d.states.toNat) (h7:env 7=.nilS) (h52:env 52=.ref 2 1 0 d.states.toNat) (h53:env 53=.int .i64 d.states.toNat) (h54:env 54=.int .i64 0) :
   Ent 105 0 env (C5 d k V) (Dc (I6 d k)) (Abs.hl [⟨6,1,true,[By d]⟩,⟨0,2,false,[]⟩,⟨1,1,true,famI d.states.toNat (inD (d.rules.take k))⟩]):=by
 obtain ⟨f1,f2⟩:=znh d k V
 rw [← h3] at f1 f2
 refine (zbw 3 2 (Lv d.states.toNat) f1).trans ((Iw (I6 d k) fun p hp=>?_).trans ((Zm (H':=Abs.hl ([⟨6,1,true,[By d]⟩,⟨0,2,false,[]⟩,⟨1,1,true,famI d.states.toNat (inD (d.rules.take k))⟩] ++ (famF d.states.toNat V (toD (d.rules.take k))).map Grp.dead)) ?_ ?_).trans (U3 (by omega) ?_ ?_)))
 · rw [f2]
   simp only [I6,List.mem_cons,List.not_mem_nil,or_false] at hp
   rcases hp with rfl|rfl|rfl|rfl|rfl|rfl|rfl<;>first|rfl|assumption
 · simp [C5,Ac.kill,Abs.hl]
 · intro g hg
   show _=if g ∈ Lv d.states.toNat then ((C5 d k V).at_ g).dead else (C5 d k V).at_ g
   have hlen:(C5 d k V).n=d.states.toNat + 3:=Wh d k V
   have hg':g < d.states.toNat + 3:=by rw [← hlen];exact hg
   match g,hg' with
   | 0,_=>rw [if_neg (by simp [Lv])];rfl
   | 1,_=>rw [if_pos (by simp [Lv])];rfl
   | 2,_=>rw [if_neg (by simp [Lv])];rfl
   | i + 3,hi =>
     have hi':i < d.states.toNat:=by omega
     rw [if_pos (Zn hi'),zji d k V hi',Cn]
     simp only [List.cons_append,List.nil_append,List.getD_cons_succ,famF,List.map_map]
     exact Bq hi'
 · intro G hG
   simp only [List.mem_cons,List.not_mem_nil,or_false] at hG
   rcases hG with rfl|rfl|rfl
   · exact Ev _ _ (by simp [Ay,Mt])
   · trivial
   · exact Ev _ _ (Cc.2 fun x hx=>by
       obtain ⟨i,_,rfl⟩:=List.mem_map.1 hx
       rfl)
 · intro i _
   have hd:ltV 3 (Mu d.states.toNat (toD (d.rules.take k))):=trivial
   simp only [Dc,I6]
   repeat' split
   all_goals first
     | exact hd
     | trivial
     | (show _ < _;simp)
theorem z8n (d:Desc) (hd:zr9 d):PC Tryz.prog 77 [By d] (.bool (@decide (cycP d.rules d.states.toNat) (Classical.propDecidable _))):=by
 obtain ⟨⟨hn1,hn2⟩,hlen,hrul⟩:=hd
 have hP:=Bj d.rules
 refine A9 Yi ?_
 unfold Ng
 (repeat' (first|(simp (disch:=omega) only [push_cast,↓zz,seval])|(with_reducible first|refine And.intro ?_ ?_|(first|refine Ab ?_ ?_|refine Aa ?_ ?_)<;>intro hc<;>(try simp only [push_cast] at hc))|omega|with_reducible intro _))
 refine Ao (zbv (fun (s:Nat × (Nat→Nat))=>s.1 ≤ d.rules.length) (fun s=>d.rules.length - s.1) (fun s=>Qz d s.1) (fun s=>C5 d s.1 s.2) (0,fun _=>1) (by simp) ?_ ?_)
 · exact zd2 rfl rfl rfl rfl rfl rfl
 rintro ⟨k,V⟩ hk
 simp only at hk ⊢
 rcases Nat.lt_or_ge k d.rules.length with hkl|hkl
 · have hr:=hrul _ (Au hkl)
   generalize hre:nth d.rules k=r at *
   have hgr:=Ae r.guards
   have hot:=Bb r.out
   obtain ⟨n,hn⟩:∃ n:Nat,d.states=n:=⟨d.states.toNat,by omega⟩
   obtain ⟨i,hi⟩:∃ i:Nat,r.from_=i:=⟨r.from_.toNat,by omega⟩
   obtain ⟨j,hj⟩:∃ j:Nat,r.to_=j:=⟨r.to_.toNat,by omega⟩
   have hin:i < n:=by omega
   have hjn:j < n:=by omega
   have hni:¬ n=i:=by omega
   have ee:Qz d k=Dc [(1,.ptr 0 1 0 0),(3,.ref 1 1 0 n),(4,.ref 2 1 0 n),(21,F5 d.rules),(22,.int .i64 d.rules.length),(23,.int .i64 k)]:=by simp only [Qz,hn,Int.toNat_natCast]
   have eh:C5 d k V=Abs.hl (⟨6,1,true,[By d]⟩ :: ⟨1,1,true,famT n V (toD (d.rules.take k))⟩ :: ⟨1,1,true,famI n (inD (d.rules.take k))⟩ :: famF n V (toD (d.rules.take k))):=by simp only [C5,hn,Int.toNat_natCast]
   rw [ee,eh]
   clear ee eh
   have hFl:(famF n V (toD (d.rules.take k))).length=n:=by simp [famF]
   have hTl:(famT n V (toD (d.rules.take k))).length=n:=by simp [famT]
   have hIl:(famI n (inD (d.rules.take k))).length=n:=by simp [famI]
   have gI:∀ G,(famF n V (toD (d.rules.take k)) ++ [G]).getD i default=z2b (V i) (toD (d.rules.take k) i):=fun G=>by
     rw [List.getD_eq_getElem?_getD,List.getElem?_append_left (by omega),← List.getD_eq_getElem?_getD]
     exact Bq hin
   have gR:∀ G,(famF n V (toD (d.rules.take k)) ++ [G]).getD n default=G:=fun G=>by
     rw [List.getD_eq_getElem?_getD,List.getElem?_append_right (by omega)]
     simp [hFl]
   have tI:(famT n V (toD (d.rules.take k))).getD i .any=.ref (i + 3) (V i) 0 (toD (d.rules.take k) i).length:=Bq hin
   have iJ:(famI n (inD (d.rules.take k))).getD j .any=.int .i64 (inD (d.rules.take k) j):=Bq hjn
   have sR:∀ G G',setQ (famF n V (toD (d.rules.take k)) ++ [G]) n G'=some (famF n V (toD (d.rules.take k)) ++ [G']):=fun G G'=>by
     have:=We (famF n V (toD (d.rules.take k))) G G'
     rwa [hFl] at this
   have sI:∀ G G',setQ (famF n V (toD (d.rules.take k)) ++ [G]) i G'=some ((famF n V (toD (d.rules.take k))).set i G' ++ [G]):=fun G G'=>Wg _ _ _ (by omega)
   have gR2:∀ G G',((famF n V (toD (d.rules.take k))).set i G' ++ [G]).getD n default=G:=fun G G'=>by
     rw [List.getD_eq_getElem?_getD,List.getElem?_append_right (by simp [hFl])]
     simp [hFl]
   have hSB:∀ R G,Ck 3 [i + 3] (famF n V (toD (d.rules.take k)) ++ [R]) ((famF n V (toD (d.rules.take k))).set i G ++ [R]):=fun R G=>by
     rw [← List.set_append_left _ _ (by omega)]
     exact Kc (by simp;omega)
   generalize hF:famF n V (toD (d.rules.take k))=F at *
   generalize hT:famT n V (toD (d.rules.take k))=TT at *
   generalize hI:famI n (inD (d.rules.take k))=II at *
   generalize hD:toD (d.rules.take k) i=Di at *
   generalize hJ:inD (d.rules.take k) j=Ij at *
   refine W_T ?_
   have hEx:(!Di.isEmpty || (Di.map (AV.int .i64)).isEmpty)=true:=by cases Di<;>rfl
   have hDl:Di.length ≤ 4096:=by rw [← hD];have:=zjh (d.rules.take k) i;simp at this;omega
   have hJb:0 ≤ Ij∧Ij ≤ 4096:=by rw [← hJ];have:=zd0 (d.rules.take k) j;simp at this;omega
   (repeat' (first|(simp (disch:=omega) only [push_cast,↓zz,seval,hP,hre,hi,hj,hFl,hTl,hIl,gI,gR,gR2,sR,sI,tI,iJ,List.cons_append,List.length_append,List.length_cons])|(with_reducible first|refine And.intro ?_ ?_|(first|refine Ab ?_ ?_|refine Aa ?_ ?_)<;>intro hc<;>(try simp only [push_cast] at hc))|omega|with_reducible intro _))
   · refine Cl [i + 3] ?_
     (repeat' (first|(simp (disch:=omega) only [push_cast,↓zz,seval,xx,List.mem_cons,List.not_mem_nil,or_false,false_or,not_or,not_false_eq_true,true_or,or_true,hP,hre,hi,hj,hFl,hTl,hIl,gI,gR,gR2,sR,sI,tI,iJ,List.cons_append,List.length_append,List.length_cons,hni,hEx])|(with_reducible first|refine And.intro ?_ ?_|(first|refine Ab ?_ ?_|refine Aa ?_ ?_)<;>intro hc<;>(try simp only [push_cast] at hc))|omega|with_reducible intro _))
     · exact hSB _ _
     have he:Ei (nth d.rules k)=true:=by rw [hre,Ei];simpa using ‹(r.guards.length:Int)=0›
     have e1:=zhx (i:=i) hkl (by rw [hre];exact hi) he
     have e2:=zhy (j:=j) hkl (by rw [hre];exact hj) he
     refine ⟨(k + 1,setV V i (V i + 1)),zcz (gar:=[⟨5,1,true,[.agg [.int .i64 i,.int .i64 j,Ak r.guards,.int .i64 r.eat,Cz r.out]]⟩]) hn1 ?_ ?_ ?_ ?_ ?_ ?_ ?_,by simp only;omega,by simp only;omega⟩
     · rw [cycL,e1,e2,hn,Int.toNat_natCast,← hF,← hT,← hI,← hD,← hJ,hre,hj,zhv hin,Oi hjn,zhw hin]
       rfl
     all_goals first|rfl|(rw [hn];rfl)
   · have he:Ei (nth d.rules k)=false:=by rw [hre,Ei];simpa using ‹¬ (r.guards.length:Int)=0›
     obtain ⟨e1,e2⟩:=zhz hkl he
     refine ⟨(k + 1,V),zcz (gar:=[⟨5,1,true,[.agg [.int .i64 i,.int .i64 j,Ak r.guards,.int .i64 r.eat,Cz r.out]]⟩]) hn1 ?_ ?_ ?_ ?_ ?_ ?_ ?_,by simp only;omega,by simp only;omega⟩
     · rw [cycL,e1,e2,hn,Int.toNat_natCast,hF,hT,hI]
       rfl
     all_goals first|rfl|(rw [hn];rfl)
 · obtain rfl:k=d.rules.length:=by omega
   obtain ⟨n,hn⟩:∃ n:Nat,d.states=n:=⟨d.states.toNat,by omega⟩
   have ee:Qz d d.rules.length=Dc [(1,.ptr 0 1 0 0),(3,.ref 1 1 0 n),(4,.ref 2 1 0 n),(21,F5 d.rules),(22,.int .i64 d.rules.length),(23,.int .i64 d.rules.length)]:=by simp only [Qz,hn,Int.toNat_natCast]
   refine W_T ?_
   rw [ee,Tp]
   (repeat' (first|(simp (disch:=omega) only [push_cast,↓zz,seval,hP])|(with_reducible first|refine And.intro ?_ ?_|(first|refine Ab ?_ ?_|refine Aa ?_ ?_)<;>intro hc<;>(try simp only [push_cast] at hc))|omega|with_reducible intro _))
   refine zmv (z8m rfl (by rw [hn];rfl) (by rw [hn];rfl) rfl (by rw [hn];rfl) (by rw [hn];rfl) rfl) ?_
   have el:I6 d d.rules.length=[(1,.ptr 0 1 0 0),(3,.lst 1 ((List.range n).map fun i=>C2 (toD d.rules i))),(4,.ref 2 1 0 n),(7,.nilS),(52,.ref 2 1 0 n),(53,.int .i64 n),(54,.int .i64 0)]:=by
     simp only [I6,hn,Int.toNat_natCast,List.take_length,Mu]
   rw [el,hn,Int.toNat_natCast,List.take_length]
   clear el ee
   have pL:Ay ((List.range n).map fun i=>C2 (toD d.rules i))=true:=Cc.2 fun x hx=>by
     obtain ⟨i,_,rfl⟩:=List.mem_map.1 hx
     exact Cw .i64 _
   have lL:((List.range n).map fun i=>C2 (toD d.rules i)).length=n:=by simp
   have aL:∀ i,i < n→((List.range n).map fun i=>C2 (toD d.rules i)).getD i .any=C2 (toD d.rules i):=fun i hi=>Bq hi
   have aL2:∀ i,i < n→((List.range n).map fun i=>C2 (toD d.rules i))[i]? = some (C2 (toD d.rules i)):=fun i hi=>by simp [hi]
   generalize hLe:(List.range n).map (fun i=>C2 (toD d.rules i))=L at *
   have pI:∀ f,Ay (famI n f)=true:=fun f=>Cc.2 fun x hx=>by
     obtain ⟨i,_,rfl⟩:=List.mem_map.1 hx
     rfl
   have lI:∀ f,(famI n f).length=n:=fun f=>by simp [famI]
   have aI:∀ f i,i < n→(famI n f).getD i .any=.int .i64 (f i):=fun f i hi=>Bq hi
   have hnn:(n:Int) ≤ 1024:=by omega
   refine Ao (Ap (fun (k:Nat)=>k ≤ n) (fun k=>n - k)
     (fun k=>[(1,.ptr 0 1 0 0),(3,.lst 1 L),(4,.ref 1 1 0 n),(7,.ref 2 1 0 (Ka (inD d.rules) k).length),(52,.ref 1 1 0 n),(53,.int .i64 n),(54,.int .i64 k)]) (fun k=>[⟨6,1,true,[By d]⟩,⟨1,1,true,famI n (inD d.rules)⟩,⟨1,1,false,(Ka (inD d.rules) k).map (AV.int .i64)⟩]) (fun env _=>[Aw 1 (env 1),Aw 1 (env 4),Aw 1 (env 7)]) 0 (by simp) ?_ ?_)
   · have z0:Ka (inD d.rules) 0=[]:=rfl
     (repeat' (first|(simp (disch:=omega) only [push_cast,↓zz,seval,pL,lL,pI,lI,z0])|(with_reducible first|refine And.intro ?_ ?_|(first|refine Ab ?_ ?_|refine Aa ?_ ?_)<;>intro hc<;>(try simp only [push_cast] at hc))|omega|with_reducible intro _))
   intro k hk
   have zl:=zcc (inD d.rules) k
   rcases Nat.lt_or_ge k n with hkn|hkn
   · have aK:=aI (inD d.rules) k hkn
     have zs:=z7q (inD d.rules) k
     have hib:=zd0 d.rules k
     generalize inD d.rules k=v at *
     refine W_T ?_
     (repeat' (first|(simp (disch:=omega) only [push_cast,↓zz,seval,pL,lL,pI,lI,aK])|(with_reducible first|refine And.intro ?_ ?_|(first|refine Ab ?_ ?_|refine Aa ?_ ?_)<;>intro hc<;>(try simp only [push_cast] at hc))|omega|with_reducible intro _))
     · rw [if_pos (by assumption)] at zs
       refine ⟨k + 1,?_⟩
       (repeat' (first|(simp (disch:=omega) only [push_cast,↓zz,seval,zs])|(with_reducible first|refine And.intro ?_ ?_|(first|refine Ab ?_ ?_|refine Aa ?_ ?_)<;>intro hc<;>(try simp only [push_cast] at hc))|omega|with_reducible intro _))
     · rw [if_neg (by assumption)] at zs
       refine ⟨k + 1,?_⟩
       (repeat' (first|(simp (disch:=omega) only [push_cast,↓zz,seval,zs])|(with_reducible first|refine And.intro ?_ ?_|(first|refine Ab ?_ ?_|refine Aa ?_ ?_)<;>intro hc<;>(try simp only [push_cast] at hc))|omega|with_reducible intro _))
   · have hkn2:n=k:=by omega
     subst hkn2
     refine W_T ?_
     (repeat' (first|(simp (disch:=omega) only [push_cast,↓zz,seval,pL,lL,pI,lI])|(with_reducible first|refine And.intro ?_ ?_|(first|refine Ab ?_ ?_|refine Aa ?_ ?_)<;>intro hc<;>(try simp only [push_cast] at hc))|omega|with_reducible intro _))
     have hto:∀ s m,m < (toD d.rules s).length→0 ≤ nth (toD d.rules s) m∧nth (toD d.rules s) m < n:=fun s m hm=>by
       have hm2:nth (toD d.rules s) m ∈ toD d.rules s:=Au hm
       generalize nth (toD d.rules s) m=x at *
       obtain ⟨r,hr,rfl⟩:=List.mem_map.1 hm2
       have:=hrul r (List.mem_filter.1 hr).1
       omega
     refine Ao (Ap (fun (s:List Int × List Int × List Int)=>KInv d.rules n (s.1 ++ s.2.1) (cntE d.rules s.1)) (fun s=>n - s.1.length)
       (fun s=>[(1,.ptr 0 1 0 0),(3,.lst 1 L),(4,.ref 1 1 0 n),(7,.ref 2 1 s.2.2.length s.2.1.length),(10,.int .i64 s.1.length)]) (fun s=>[⟨6,1,true,[By d]⟩,⟨1,1,true,famI n (cntE d.rules s.1)⟩,⟨1,1,false,(s.2.2 ++ s.2.1).map (AV.int .i64)⟩]) (fun env _=>[Aw 1 (env 1),Aw 1 (env 4),Aw 1 (env 7)]) ([],Ka (inD d.rules) n,[]) (z7r d.rules n) ?_ ?_)
     · have e0:cntE d.rules []=inD d.rules:=funext fun j=>Vy _ _
       (repeat' (first|(simp (disch:=omega) only [push_cast,↓zz,seval,pL,lL,pI,lI,e0])|(with_reducible first|refine And.intro ?_ ?_|(first|refine Ab ?_ ?_|refine Aa ?_ ?_)<;>intro hc<;>(try simp only [push_cast] at hc))|omega|with_reducible intro _))
     rintro ⟨P,td,junk⟩ hK
     simp only at hK
     have hlen2:=hK.len
     rw [List.length_append] at hlen2
     rcases td with _|⟨x,rest⟩
     · rw [List.append_nil] at hK
       have hdone:=zcf (fun r hr=>by have:=hrul r hr;omega) hK
       refine W_T ?_
       (repeat' (first|(simp (disch:=omega) only [push_cast,↓zz,seval,pL,lL,pI,lI])|(with_reducible first|refine And.intro ?_ ?_|(first|refine Ab ?_ ?_|refine Aa ?_ ?_)<;>intro hc<;>(try simp only [push_cast] at hc))|omega|with_reducible intro _))
       all_goals exact decide_eq_decide.2 (by rw [← hdone];omega)
     · have hx:=hK.range x (by simp)
       obtain ⟨s,rfl⟩:∃ s:Nat,x=s:=⟨x.toNat,by omega⟩
       have hsn:s < n:=by omega
       have hsP:(s:Int) ∉ P:=fun hh=>by
         exact (List.nodup_append.1 hK.nodup).2.2 (s:Int) hh (s:Int) (by simp) rfl
       have aS:=aL s hsn
       have aS2:=aL2 s hsn
       have j0:(junk.map (AV.int .i64) ++ AV.int .i64 (s:Int) :: rest.map (AV.int .i64)).getD junk.length .any=.int .i64 s:=by simp [List.getD]
       have j1:nth (junk ++ (s:Int) :: rest) junk.length=s:=by simp [nth]
       have hjl:(junk ++ (s:Int) :: rest).length=junk.length + (rest.length + 1):=by simp
       simp only [List.length_cons] at hlen2
       refine W_T ?_
       (repeat' (first|(simp (disch:=omega) only [push_cast,↓zz,seval,pL,lL,pI,lI,aS,aS2,j0,j1,hjl,List.length_cons])|(with_reducible first|refine And.intro ?_ ?_|(first|refine Ab ?_ ?_|refine Aa ?_ ?_)<;>intro hc<;>(try simp only [push_cast] at hc))|omega|with_reducible intro _))
       have hK0:KInv d.rules n (P ++ [(s:Int)] ++ rest) (Et d.rules P s 0):=by
         rw [Tb,List.append_assoc]
         exact hK
       have hDb:=zjh d.rules s
       refine Ao (Ap (fun (q:Nat × List Int × List Int)=>q.1 ≤ (toD d.rules s).length∧KInv d.rules n (P ++ [(s:Int)] ++ q.2.1) (Et d.rules P s q.1)) (fun q=>(toD d.rules s).length - q.1)
         (fun q=>[(1,.ptr 0 1 0 0),(3,.lst 1 L),(4,.ref 1 1 0 n),(7,.ref 2 1 q.2.2.length q.2.1.length),(10,.int .i64 P.length),(79,C2 (toD d.rules s)),(80,.int .i64 (toD d.rules s).length),(81,.int .i64 q.1)]) (fun q=>[⟨6,1,true,[By d]⟩,⟨1,1,true,famI n (Et d.rules P s q.1)⟩,⟨1,1,false,(q.2.2 ++ q.2.1).map (AV.int .i64)⟩]) (fun env _=>[Aw 1 (env 1),Aw 1 (env 4),Aw 1 (env 7)]) (0,rest,junk ++ [(s:Int)]) ⟨by simp,hK0⟩ ?_ ?_)
       · have e0:=Tb d.rules P s
         (repeat' (first|(simp (disch:=omega) only [push_cast,↓zz,seval,pL,lL,pI,lI,e0,List.map_append,List.append_assoc,List.map_cons,List.map_nil,List.cons_append,List.nil_append,List.length_append,List.length_cons,List.length_nil])|(with_reducible first|refine And.intro ?_ ?_|(first|refine Ab ?_ ?_|refine Aa ?_ ?_)<;>intro hc<;>(try simp only [push_cast] at hc))|omega|with_reducible intro _))
       rintro ⟨m,td,jk⟩ ⟨m1,m2⟩
       simp only at m1 m2
       have hlen3:=m2.len
       simp only [List.length_append,List.length_cons,List.length_nil] at hlen3
       rcases Nat.lt_or_ge m (toD d.rules s).length with hm|hm
       · obtain ⟨t1,t2⟩:=hto s m hm
         obtain ⟨t,ht⟩:∃ t:Nat,nth (toD d.rules s) m=t:=⟨(nth (toD d.rules s) m).toNat,by omega⟩
         have htn:t < n:=by omega
         have hst:=zce hsP hm ht htn m2
         have hle:=Mj (P:=P) hm ht
         have hps:=Y5 hsP hm ht
         have aT:=aI (Et d.rules P s m) t htn
         have aT2:=aI (Et d.rules P s (m + 1)) t htn
         have hv:Et d.rules P s (m + 1) t=Et d.rules P s m t - 1:=by rw [hle];simp
         have hset:(famI n (Et d.rules P s m)).set t (.int .i64 (Et d.rules P s m t - 1))=famI n (Et d.rules P s (m + 1)):=by rw [hle];exact Oi htn
         have hlb:Et d.rules P s m t ≤ 4096:=by
           have c1:cntE d.rules P t ≤ inD d.rules t:=by
             rw [← Vy]
             exact zn6 _ _ _
           have c2:=zd0 d.rules t
           have c3:Et d.rules P s m t ≤ cntE d.rules P t:=by simp only [Et];omega
           omega
         rw [hv] at aT2
         generalize Et d.rules P s m t=v at *
         refine W_T ?_
         have eD:List.drop jk.length (jk.map (AV.int .i64) ++ td.map (AV.int .i64))=td.map (AV.int .i64):=by
           rw [List.drop_append_of_le_length (by simp),List.drop_eq_nil_of_le (by simp),List.nil_append]
         (repeat' (first|(simp (disch:=omega) only [push_cast,↓zz,seval,pL,lL,pI,lI,ht,aT,aT2,hset,eD])|(with_reducible first|refine And.intro ?_ ?_|(first|refine Ab ?_ ?_|refine Aa ?_ ?_)<;>intro hc<;>(try simp only [push_cast] at hc))|omega|with_reducible intro _))
         · rw [if_pos (by assumption)] at hst
           refine ⟨(m + 1,td ++ [(t:Int)],jk),?_⟩
           (repeat' (first|(simp (disch:=omega) only [push_cast,↓zz,seval,List.map_append,List.append_assoc,List.map_cons,List.map_nil,List.length_append,List.length_cons,List.length_nil])|(with_reducible first|refine And.intro ?_ ?_|(first|refine Ab ?_ ?_|refine Aa ?_ ?_)<;>intro hc<;>(try simp only [push_cast] at hc))|omega|with_reducible intro _))
           simpa [List.append_assoc] using hst
         · rw [if_pos (by assumption)] at hst
           refine ⟨(m + 1,td ++ [(t:Int)],[]),?_⟩
           (repeat' (first|(simp (disch:=omega) only [push_cast,↓zz,seval,List.map_append,List.append_assoc,List.map_cons,List.map_nil,List.nil_append,List.length_append,List.length_cons,List.length_nil])|(with_reducible first|refine And.intro ?_ ?_|(first|refine Ab ?_ ?_|refine Aa ?_ ?_)<;>intro hc<;>(try simp only [push_cast] at hc))|omega|with_reducible intro _))
           simpa [List.append_assoc] using hst
         · rw [if_neg (by assumption)] at hst
           refine ⟨(m + 1,td,jk),?_⟩
           (repeat' (first|(simp (disch:=omega) only [push_cast,↓zz,seval])|(with_reducible first|refine And.intro ?_ ?_|(first|refine Ab ?_ ?_|refine Aa ?_ ?_)<;>intro hc<;>(try simp only [push_cast] at hc))|omega|with_reducible intro _))
           simpa [List.append_assoc] using hst
       · have hme:m=(toD d.rules s).length:=by omega
         subst hme
         have hE:=zcd (l:=d.rules) hsP
         rw [hE] at m2
         rw [hE]
         refine W_T ?_
         (repeat' (first|(simp (disch:=omega) only [push_cast,↓zz,seval,pL,lL,pI,lI])|(with_reducible first|refine And.intro ?_ ?_|(first|refine Ab ?_ ?_|refine Aa ?_ ?_)<;>intro hc<;>(try simp only [push_cast] at hc))|omega|with_reducible intro _))
         all_goals
           refine ⟨(P ++ [(s:Int)],td,jk),?_⟩
           (repeat' (first|(simp (disch:=omega) only [push_cast,↓zz,seval,List.length_append,List.length_cons,List.length_nil])|(with_reducible first|refine And.intro ?_ ?_|(first|refine Ab ?_ ?_|refine Aa ?_ ?_)<;>intro hc<;>(try simp only [push_cast] at hc))|omega|with_reducible intro _))
         all_goals (simpa [List.append_assoc] using m2)
abbrev arcV (e:Int × Int):AV:=.agg [.int .i64 e.1,.int .i64 e.2]
abbrev Zo (l:List (Int × Int)):AV:=.lst 2 (l.map arcV)
theorem Gx (l:List (Int × Int)):Ay (l.map arcV)=true:=Dn (fun _=>rfl) l
def outE (E:List (Int × Int)) (i:Nat):List Int:=(E.filter fun e=>decide (e.1=(i:Int))).map (·.2)
theorem Wi (E:List (Int × Int)) (i:Nat):(outE E i).length ≤ E.length:=by
 have:=List.length_filter_le (fun e:Int × Int=>decide (e.1=(i:Int))) E
 simpa [outE] using this
theorem z5k {E:List (Int × Int)} {i:Nat} {t:Int}:t ∈ outE E i ↔ ((i:Int),t) ∈ E:=by
 simp only [outE,List.mem_map,List.mem_filter,decide_eq_true_eq]
 constructor
 · rintro ⟨⟨a,b⟩,⟨h1,h2⟩,rfl⟩
   simp only at h2
   subst h2
   exact h1
 · intro h
   exact ⟨_,⟨h,rfl⟩,rfl⟩
theorem zd3 {E:List (Int × Int)} {k i:Nat} (hk:k < E.length) (hi:(nth E k).1=i):outE (E.take (k + 1))=fun p=>if p=i then outE (E.take k) i ++ [(nth E k).2] else outE (E.take k) p:=by
 funext p
 rw [take_at hk]
 simp only [outE,List.filter_append,List.map_append,List.filter_cons,List.filter_nil,hi,decide_eq_true_eq]
 by_cases e:p=i
 · subst e;simp
 · rw [if_neg (by omega),if_neg e];simp
inductive Reach (E:List (Int × Int)) (F:List Int):Int→Prop where
 | base {s:Int}:s ∈ F→Reach E F s
 | step {s t:Int}:Reach E F s→(s,t) ∈ E→Reach E F t
noncomputable def C3 (E:List (Int × Int)) (F:List Int) (i:Nat):Bool:=@decide (Reach E F i) (Classical.propDecidable _)
theorem D7 {E:List (Int × Int)} {F:List Int} {i:Nat}:C3 E F i=true ↔ Reach E F i:=by simp [C3]
structure InR (n:Nat) (F:List Int) (E:List (Int × Int)):Prop where
 f:∀ s ∈ F,0 ≤ s∧s < n
 e:∀ e ∈ E,(0 ≤ e.1∧e.1 < n)∧0 ≤ e.2∧e.2 < n
theorem Reach.rng {n:Nat} {F:List Int} {E:List (Int × Int)} (h:InR n F E) {s:Int} (hs:Reach E F s):0 ≤ s∧s < n:=by
 cases hs with
 | base h1=>exact h.f _ h1
 | step _ h1=>exact (h.e _ h1).2
structure z2d (n:Nat) (F:List Int) (E:List (Int × Int)) (on:Nat→Bool) (todo:List Int):Prop where
 r1:∀ s ∈ todo,Reach E F s
 r2:∀ i:Nat,on i=true→Reach E F i
 base:∀ s ∈ F,on s.toNat=true ∨ s ∈ todo
 step:∀ i:Nat,on i=true→∀ t,((i:Int),t) ∈ E→on t.toNat=true ∨ t ∈ todo
def setB (on:Nat→Bool) (s:Nat) (j:Nat):Bool:=if j=s then true else on j
theorem zi2 (n:Nat) (F:List Int) (E:List (Int × Int)):z2d n F E (fun _=>false) F where
 r1 s hs:=.base hs
 r2 i h:=by cases h
 base s hs:=.inr hs
 step i h:=by cases h
theorem zni {n s:Nat} {F:List Int} {E:List (Int × Int)} {on:Nat→Bool} {td:List Int} (h:z2d n F E on (td ++ [(s:Int)])) (hs:on s=true):z2d n F E on td where
 r1 t ht:=h.r1 t (by simp [ht])
 r2:=h.r2
 base t ht:=by
   rcases h.base t ht with h1|h1
   · exact .inl h1
   · rcases List.mem_append.1 h1 with h1|h1
     · exact .inr h1
     · simp only [List.mem_singleton] at h1;subst h1;exact .inl hs
 step i hi t ht:=by
   rcases h.step i hi t ht with h1|h1
   · exact .inl h1
   · rcases List.mem_append.1 h1 with h1|h1
     · exact .inr h1
     · simp only [List.mem_singleton] at h1;subst h1;exact .inl hs
theorem znj {n s:Nat} {F:List Int} {E:List (Int × Int)} {on:Nat→Bool} {td:List Int} (h:z2d n F E on (td ++ [(s:Int)])):z2d n F E (setB on s) (td ++ outE E s) where
 r1 t ht:=by
   rcases List.mem_append.1 ht with ht|ht
   · exact h.r1 t (by simp [ht])
   · exact .step (h.r1 s (by simp)) (z5k.1 ht)
 r2 i hi:=by
   unfold setB at hi
   split at hi
   · rename_i e;subst e;exact h.r1 _ (by simp)
   · exact h.r2 i hi
 base t ht:=by
   rcases h.base t ht with h1|h1
   · refine .inl ?_;unfold setB;split
     · rfl
     · exact h1
   · rcases List.mem_append.1 h1 with h1|h1
     · exact .inr (by simp [h1])
     · simp only [List.mem_singleton] at h1;subst h1;exact .inl (by simp [setB])
 step i hi t ht:=by
   by_cases e:i=s
   · subst e;exact .inr (by simp [z5k.2 ht])
   · have hi':on i=true:=by simpa [setB,e] using hi
     rcases h.step i hi' t ht with h1|h1
     · refine .inl ?_;unfold setB;split
       · rfl
       · exact h1
     · rcases List.mem_append.1 h1 with h1|h1
       · exact .inr (by simp [h1])
       · simp only [List.mem_singleton] at h1;subst h1;exact .inl (by simp [setB])
theorem zd4 {n:Nat} {F:List Int} {E:List (Int × Int)} (hr:InR n F E) {on:Nat→Bool} (h:z2d n F E on []) (i:Nat):on i=C3 E F i:=by
 have key:∀ s,Reach E F s→on s.toNat=true:=fun s hs=>by
   induction hs with
   | base h1 =>
     rcases h.base _ h1 with h2|h2
     · exact h2
     · cases h2
   | @step s t h1 h2 ih =>
     have hs:=h1.rng hr
     have e:((s.toNat:Nat):Int)=s:=by omega
     rcases h.step s.toNat ih t (by rw [e];exact h2) with h3|h3
     · exact h3
     · cases h3
 have:on i=true ↔ C3 E F i=true:=⟨fun h1=>D7.2 (h.r2 i h1),fun h1=>by simpa using key _ (D7.1 h1)⟩
 cases h1:on i<;>cases h2:C3 E F i<;>simp_all
def sumU (n:Nat) (on:Nat→Bool) (deg:Nat→Nat):Nat:=((List.range n).map fun i=>if on i then 0 else deg i + 1).sum
theorem zd5 {on on2:Nat→Bool} {deg:Nat→Nat}:∀ {n:Nat},(∀ i,i < n→on i=on2 i)→sumU n on deg=sumU n on2 deg:=fun h=>by
 unfold sumU
 congr 1
 exact List.map_congr_left fun i hi=>by rw [h i (by simpa using hi)]
theorem z5l {on:Nat→Bool} {deg:Nat→Nat} {s:Nat} (ho:on s=false):∀ {n:Nat},s < n→sumU n (setB on s) deg + (deg s + 1)=sumU n on deg
 | n + 1,h=>by
   have e:∀ on,sumU (n + 1) on deg=sumU n on deg + (if on n then 0 else deg n + 1):=fun on=>by simp [sumU,List.range_succ]
   rw [e,e]
   by_cases hs:s=n
   · subst hs
     rw [zd5 (on:=setB on s) (on2:=on) fun i hi=>by simp [setB];omega]
     simp [setB,ho]
   · have:=z5l (deg:=deg) ho (n:=n) (by omega)
     have e2:setB on s n=on n:=by simp [setB];omega
     rw [e2];omega
theorem zd6 (on:Nat→Bool) (deg:Nat→Nat) (m:Nat) (hd:∀ i,deg i ≤ m):∀ n,sumU n on deg ≤ n * (m + 1)
 | 0=>by simp [sumU]
 | n + 1=>by
   have e:sumU (n + 1) on deg=sumU n on deg + (if on n then 0 else deg n + 1):=by simp [sumU,List.range_succ]
   have:=zd6 on deg m hd n
   have h1:=hd n
   rw [e,Nat.succ_mul]
   split<;>omega
theorem znk {P:Program} {f m np:Nat} {xs:List AV} {y:AV} {res:List ARes} {B:AC} (hf:As P f xs.length=some ⟨m,np,res,B⟩) (h:T P m 0 B (entry xs) (Abs.hl []) (Ret P res fun z H=>Cr 4 H z∧ansW (frzV 4 H z) y)):PC P f xs y:=by
 refine zob hf 4 ?_
 rw [z40]
 exact T.mono h fun x env H hh=>z3z (fun z H hh=>⟨hh.1,zir hh.2⟩) hh
theorem z2e (l:List Int) (h0:l ≠ []) (hl:l.length ≤ 1000000000000):Bn Tryz.prog 83 [C2 l] (Abs.hl []) fun y H'=>y=.ref 0 2 0 l.length∧H'=Abs.hl [⟨1,2,false,l.map (AV.int .i64)⟩]:=by
 refine F6 (b:=0) E1 rfl ?_
 unfold Dv
 have hne:(l.map (AV.int .i64)).isEmpty=false:=by
   cases l with
   | nil=>exact absurd rfl h0
   | cons _ _=>rfl
 (repeat' (first|(simp (disch:=omega) only [push_cast,↓zz,seval,hne])|(with_reducible first|refine And.intro ?_ ?_|(first|refine Ab ?_ ?_|refine Aa ?_ ?_)<;>intro hc<;>(try simp only [push_cast] at hc))|omega|with_reducible intro _))
 all_goals trace_state
theorem Gy:PC Tryz.prog 83 [.nilS] .nilS:=by
 refine A9 E1 ?_
 unfold Dv
 (repeat' (first|(simp (disch:=omega) only [push_cast,↓zz,seval])|(with_reducible first|refine And.intro ?_ ?_|(first|refine Ab ?_ ?_|refine Aa ?_ ?_)<;>intro hc<;>(try simp only [push_cast] at hc))|omega|with_reducible intro _))
abbrev spG (v:Nat) (l:List Int):Grp:=⟨1,v,l.isEmpty,l.map (AV.int .i64)⟩
def spF (n:Nat) (V:Nat→Nat) (D:Nat→List Int):List Grp:=(List.range n).map fun i=>spG (V i) (D i)
def spT (n:Nat) (V:Nat→Nat) (D:Nat→List Int):List AV:=(List.range n).map fun i=>AV.ref (i + 1) (V i) 0 (D i).length
def spB (n:Nat) (on:Nat→Bool):List AV:=(List.range n).map fun i=>AV.bool (on i)
def Js (n:Nat) (F:AV) (E:List (Int × Int)) (k:Nat):List (Nat × AV):=[(0,.int .i64 n),(1,F),(7,.ref 0 1 0 n),(15,Zo E),(16,.int .i64 E.length),(17,.int .i64 k)]
def spL (n:Nat) (E:List (Int × Int)) (k:Nat) (V:Nat→Nat):List Grp:=⟨1,1,true,spT n V (outE (E.take k))⟩ :: spF n V (outE (E.take k))
theorem Wj (n:Nat) (E:List (Int × Int)) (k:Nat) (V:Nat→Nat):(spL n E k V).length=n + 1:=by simp [spL,spF]
theorem z8o (n:Nat) (E:List (Int × Int)) (k:Nat) (V:Nat→Nat):∀ G ∈ spL n E k V,ltL (spL n E k V).length G.xs:=fun G hG=>by
 rw [Wj]
 simp only [spL,List.mem_cons] at hG
 rcases hG with rfl|hG
 · have key:∀ (l:List Nat),(∀ i ∈ l,i < n)→ltL (n + 1) (l.map fun i=>AV.ref (i + 1) (V i) 0 (outE (E.take k) i).length):=fun l=>by
     induction l with
     | nil=>exact fun _=>trivial
     | cons i l ih =>
       intro h
       exact ⟨by have:=h i (by simp);show i + 1 < _;omega,ih fun j hj=>h j (by simp [hj])⟩
   exact key _ fun i hi=>by simpa using hi
 · obtain ⟨i,_,rfl⟩:=List.mem_map.1 hG
   exact Ev _ _ (Cw .i64 _)
theorem zra {n k:Nat} {F:AV} {E:List (Int × Int)} {V:Nat→Nat} {env:Env} {l gar:List Grp} (hF:F.pure=true) (hl':l=spL n E k V ++ gar)
   (h0:env 0=.int .i64 n) (h1:env 1=F) (h7:env 7=.ref 0 1 0 n) (h15:env 15=Zo E) (h16:env 16=.int .i64 E.length) (h17:env 17=.int .i64 k) :
   Ent 67 0 env (Abs.hl l) (Dc (Js n F E k)) (Abs.hl (spL n E k V)):=by
 rw [hl']
 refine (Iw (Js n F E k) (fun p hp=>?_)).trans (U3 (by omega) (z8o n E k V) fun i _=>?_)
 · simp only [Js,List.mem_cons,List.not_mem_nil,or_false] at hp
   rcases hp with rfl|rfl|rfl|rfl|rfl|rfl<;>assumption
 · rw [Wj]
   have hr:ltV (n + 1) (Zo E):=Pd _ _ (by simp [Zo,AV.pure,Gx])
   have hf:ltV (n + 1) F:=Pd _ _ hF
   simp only [Dc,Js]
   repeat' split
   all_goals first
     | exact hr
     | exact hf
     | trivial
     | (show _ < _;omega)
theorem znl {n i:Nat} {V:Nat→Nat} {D:Nat→List Int} {x:Int} (h:i < n):(spT n V D).set i (.ref (i + 1) (V i + 1) 0 ((D i).length + 1))=spT n (setV V i (V i + 1)) fun p=>if p=i then D i ++ [x] else D p:=by
 rw [spT,Dr h,spT]
 refine List.map_congr_left fun j _=>?_
 by_cases e:j=i
 · subst e;simp [setV]
 · simp [setV,e]
theorem znm {n i:Nat} {V:Nat→Nat} {D:Nat→List Int} {x:Int} (h:i < n):(spF n V D).set i ⟨1,V i + 1,false,(D i).map (AV.int .i64) ++ [.int .i64 x]⟩=spF n (setV V i (V i + 1)) fun p=>if p=i then D i ++ [x] else D p:=by
 rw [spF,Dr h,spF]
 refine List.map_congr_left fun j _=>?_
 by_cases e:j=i
 · subst e;simp [setV,spG]
 · simp [setV,e]
theorem Q0 {n s:Nat} {on:Nat→Bool} (h:s < n):(spB n on).set s (.bool true)=spB n (setB on s):=by
 rw [spB,Dr h,spB]
 refine List.map_congr_left fun p _=>?_
 by_cases e:p=s
 · subst e;simp [setB]
 · simp [e,setB]
theorem znn (n:Nat):spF n (fun _=>1) (outE [])=(List.replicate n 1).map Hm:=by
 rw [List.map_replicate]
 refine List.ext_getElem (by simp [spF]) fun i h1 h2=>?_
 simp only [spF,List.getElem_map,List.getElem_range,List.getElem_replicate]
 rfl
theorem zi3 {l:List Grp} {n:Nat} (h:∀ i,i < n→l.getD (i + 1) default=Hm 1∧i + 1 < l.length):leSL l (List.replicate n .nilS) (spT n (fun _=>1) (outE [])):=by
 have key:∀ idx:List Nat,(∀ i ∈ idx,i < n)→leSL l (List.replicate idx.length .nilS) (idx.map fun i=>AV.ref (i + 1) 1 0 (outE [] i).length):=fun idx=>by
   induction idx with
   | nil=>exact fun _=>rfl
   | cons i idx ih =>
     intro hi
     obtain ⟨h1,h2⟩:=h i (hi i (by simp))
     refine ⟨?_,ih fun j hj=>hi j (by simp [hj])⟩
     show 0=0∧(outE [] i).length=0∧(l.getD (i + 1) default).ver=1∧0 < (l.getD (i + 1) default).w∧(l.getD (i + 1) default).xs=[]∧(l.getD (i + 1) default).exact=true∧i + 1 < l.length
     rw [h1]
     exact ⟨rfl,rfl,rfl,by decide,rfl,rfl,h2⟩
 have:=key (List.range n) fun i hi=>by simpa using hi
 rwa [List.length_range] at this
theorem zi4 {n:Nat} {F:AV} {E:List (Int × Int)} {env:Env} (h0:env 0=.int .i64 n) (h1:env 1=F) (h7:env 7=.ref 0 1 0 n) (h15:env 15=Zo E) (h16:env 16=.int .i64 E.length) (h17:env 17=.int .i64 0) :
   Ent 67 0 env (Abs.hl [⟨1,1,true,List.replicate n .nilS⟩]) (Dc (Js n F E 0)) (Abs.hl (spL n E 0 fun _=>1)):=by
 refine (Iw (Js n F E 0) (fun p hp=>?_)).trans
   ((z4x (List.replicate n 1) (fun w hw=>by have:=(List.mem_replicate.1 hw).2;omega)).trans (zjc ?_ fun i _=>Oe _ _))
 · simp only [Js,List.mem_cons,List.not_mem_nil,or_false] at hp
   rcases hp with rfl|rfl|rfl|rfl|rfl|rfl<;>assumption
 · rw [spL,List.take_zero,znn]
   refine ⟨⟨rfl,rfl,id,zi3 fun i hi=>?_⟩,Kd _ _⟩
   refine ⟨?_,by simp;omega⟩
   rw [List.map_replicate]
   simp [List.getD,hi]
def spKs (n:Nat):List Nat:=0 :: (List.range n).map (· + 1)
theorem z5m {n i:Nat} (h:i < n):i + 1 ∈ spKs n:=List.mem_cons.2 (.inr (List.mem_map.2 ⟨i,List.mem_range.2 h,rfl⟩))
theorem sp_at (n:Nat) (E:List (Int × Int)) (k:Nat) (V:Nat→Nat) {i:Nat} (hi:i < n):(Abs.hl (spL n E k V)).at_ (i + 1)=spG (V i) (outE (E.take k) i):=by
 rw [spL,Cn]
 simp only [List.getD_cons_succ]
 exact Bq hi
theorem zrb (n:Nat) (E:List (Int × Int)) (k:Nat) (V:Nat→Nat):Cr 2 ((Abs.hl (spL n E k V)).only (spKs n)) (.ref 0 1 0 n)∧frzV 2 ((Abs.hl (spL n E k V)).only (spKs n)) (.ref 0 1 0 n)=Mu n (outE (E.take k)):=by
 have hat1:((Abs.hl (spL n E k V)).only (spKs n)).at_ 0=⟨1,1,true,spT n V (outE (E.take k))⟩:=by
   show (if 0 ∈ spKs n then (Abs.hl (spL n E k V)).at_ 0 else ((Abs.hl (spL n E k V)).at_ 0).dead)=_
   rw [if_pos (by simp [spKs])]
   rfl
 have hat:∀ i,i < n→((Abs.hl (spL n E k V)).only (spKs n)).at_ (i + 1)=spG (V i) (outE (E.take k) i):=fun i hi=>by
   show (if i + 1 ∈ spKs n then (Abs.hl (spL n E k V)).at_ (i + 1) else ((Abs.hl (spL n E k V)).at_ (i + 1)).dead)=_
   rw [if_pos (z5m hi)]
   exact sp_at n E k V hi
 have htl:(((spT n V (outE (E.take k))).drop 0).take n)=spT n V (outE (E.take k)):=by
   rw [List.drop_zero];exact List.take_of_length_le (by simp [spT])
 constructor
 · refine ⟨by rw [hat1],by rw [hat1];exact Nat.one_pos,by rw [hat1];simp [spT],fun y hy=>?_⟩
   rw [hat1,htl] at hy
   obtain ⟨i,hi,rfl⟩:=List.mem_map.1 hy
   have hi':i < n:=by simpa using hi
   refine ⟨by rw [hat i hi'],by rw [hat i hi'];exact Nat.one_pos,by rw [hat i hi'];simp,fun z hz=>?_⟩
   rw [hat i hi'] at hz
   obtain ⟨u,_,rfl⟩:=List.mem_map.1 (List.mem_of_mem_drop (List.mem_of_mem_take hz))
   rfl
 · show AV.lst _ _=_
   rw [hat1,htl,Mu,spT,List.map_map]
   congr 1
   refine List.map_congr_left fun i hi=>?_
   have hi':i < n:=by simpa using hi
   show AV.lst _ _=_
   rw [hat i hi']
   have e:(((spG (V i) (outE (E.take k) i)).xs.drop 0).take (outE (E.take k) i).length).map (frzV 0 ((Abs.hl (spL n E k V)).only (spKs n)))=(outE (E.take k) i).map (AV.int .i64):=by
     rw [List.drop_zero,List.take_of_length_le (by simp [spG])]
     refine (List.map_congr_left fun x hx=>?_).trans (List.map_id _)
     obtain ⟨u,_,rfl⟩:=List.mem_map.1 hx
     rfl
   rw [e]
def Mv (n:Nat) (F:AV) (E:List (Int × Int)) (k:Nat):List (Nat × AV):=[(0,.int .i64 n),(1,F),(7,Mu n (outE (E.take k)))]
theorem zd7 {n k:Nat} {F:AV} {E:List (Int × Int)} {V:Nat→Nat} {env:Env} (hF:F.pure=true) (h0:env 0=.int .i64 n) (h1:env 1=F) (h7:env 7=.ref 0 1 0 n) :
   Ent 67 0 env (Abs.hl (spL n E k V)) (Dc (Mv n F E k)) (Abs.hl []):=by
 obtain ⟨f1,f2⟩:=zrb n E k V
 rw [← h7] at f1 f2
 refine (zbw 7 2 (spKs n) f1).trans ((Iw (Mv n F E k) fun p hp=>?_).trans ((Zm (H':=Abs.hl ([] ++ (spL n E k V).map Grp.dead)) ?_ ?_).trans (U3 (by omega) (fun G hG=>by cases hG) ?_)))
 · rw [f2]
   simp only [Mv,List.mem_cons,List.not_mem_nil,or_false] at hp
   rcases hp with rfl|rfl|rfl<;>first|rfl|assumption
 · simp [Ac.kill,Abs.hl]
 · intro g hg
   show _=if g ∈ spKs n then ((Abs.hl (spL n E k V)).at_ g).dead else (Abs.hl (spL n E k V)).at_ g
   have hlen:(Abs.hl (spL n E k V)).n=n + 1:=Wj n E k V
   have hg':g < n + 1:=by rw [← hlen];exact hg
   rw [if_pos (by
     cases g with
     | zero=>simp [spKs]
     | succ i=>exact z5m (by omega)),Cn,Cn,List.nil_append]
   have hg2:g < (spL n E k V).length:=by rw [Wj];exact hg'
   simp [List.getD,hg2]
 · intro i _
   have hd:ltV 0 (Mu n (outE (E.take k))):=trivial
   have hf:ltV 0 F:=Pd _ _ hF
   simp only [Dc,Mv]
   repeat' split
   all_goals first
     | exact hd
     | exact hf
     | trivial
noncomputable def Cj (n:Nat) (F:List Int) (E:List (Int × Int)):List Bool:=(List.range n).map (C3 E F)
theorem Du (n:Nat) (F:List Int) (E:List (Int × Int)):(Cj n F E).length=n:=by simp [Cj]
def zd8:AC→AC
 | .seq _ (.seq _ (.seq _ r))=>r
 | c=>c
theorem Tq (n:Nat) (FV:AV) (hPF:FV.pure=true) (E:List (Int × Int)) (hn:n ≤ 1024) (hEl:E.length ≤ 5000) (hr:InR n [] E) {Q:Ex→Env→Ac→Prop}
   (h:T Tryz.prog 67 0 (zd8 Ea) (Dc [(0,.int .i64 n),(1,FV),(7,Mu n (outE E))]) (Abs.hl []) Q):T Tryz.prog 67 0 Ea (entry [.int .i64 n,FV,Zo E]) (Abs.hl []) Q:=by
 have hP:=Gx E
 unfold Ea
 refine Rp (W_T ?_)
 (repeat' (first|(simp (disch:=omega) only [push_cast,↓zz,seval])|(with_reducible first|refine And.intro ?_ ?_|(first|refine Ab ?_ ?_|refine Aa ?_ ?_)<;>intro hc<;>(try simp only [push_cast] at hc))|omega|with_reducible intro _))
 refine Rp (W_T ?_)
 (repeat' (first|(simp (disch:=omega) only [push_cast,↓zz,seval])|(with_reducible first|refine And.intro ?_ ?_|(first|refine Ab ?_ ?_|refine Aa ?_ ?_)<;>intro hc<;>(try simp only [push_cast] at hc))|omega|with_reducible intro _))
 refine Rp (W_T ?_)
 (repeat' (first|(simp (disch:=omega) only [push_cast,↓zz,seval])|(with_reducible first|refine And.intro ?_ ?_|(first|refine Ab ?_ ?_|refine Aa ?_ ?_)<;>intro hc<;>(try simp only [push_cast] at hc))|omega|with_reducible intro _))
 refine Ao (zbv (fun (s:Nat × (Nat→Nat))=>s.1 ≤ E.length) (fun s=>E.length - s.1) (fun s=>Dc (Js n FV E s.1)) (fun s=>Abs.hl (spL n E s.1 s.2)) (0,fun _=>1) (by simp) ?_ ?_)
 · exact zi4 rfl rfl rfl rfl rfl rfl
 rintro ⟨k,V⟩ hk
 simp only at hk ⊢
 rcases Nat.lt_or_ge k E.length with hkl|hkl
 · have he:=hr.e _ (Au hkl)
   have estep:=fun i h=>zd3 (E:=E) (k:=k) (i:=i) hkl h
   generalize hre:nth E k=e at *
   obtain ⟨i,hi⟩:∃ i:Nat,e.1=i:=⟨e.1.toNat,by omega⟩
   have hin:i < n:=by omega
   have hni:¬ n=i:=by omega
   have e1:=estep i hi
   simp only [Js,spL]
   have hFl:(spF n V (outE (E.take k))).length=n:=by simp [spF]
   have hTl:(spT n V (outE (E.take k))).length=n:=by simp [spT]
   have gI:∀ G,(spF n V (outE (E.take k)) ++ [G]).getD i default=spG (V i) (outE (E.take k) i):=fun G=>by
     rw [List.getD_eq_getElem?_getD,List.getElem?_append_left (by omega),← List.getD_eq_getElem?_getD]
     exact Bq hin
   have gR:∀ G,(spF n V (outE (E.take k)) ++ [G]).getD n default=G:=fun G=>by
     rw [List.getD_eq_getElem?_getD,List.getElem?_append_right (by omega)]
     simp [hFl]
   have tI:(spT n V (outE (E.take k))).getD i .any=.ref (i + 1) (V i) 0 (outE (E.take k) i).length:=Bq hin
   have sR:∀ G G',setQ (spF n V (outE (E.take k)) ++ [G]) n G'=some (spF n V (outE (E.take k)) ++ [G']):=fun G G'=>by
     have:=We (spF n V (outE (E.take k))) G G'
     rwa [hFl] at this
   have sI:∀ G G',setQ (spF n V (outE (E.take k)) ++ [G]) i G'=some ((spF n V (outE (E.take k))).set i G' ++ [G]):=fun G G'=>Wg _ _ _ (by omega)
   have gR2:∀ G G',((spF n V (outE (E.take k))).set i G' ++ [G]).getD n default=G:=fun G G'=>by
     rw [List.getD_eq_getElem?_getD,List.getElem?_append_right (by simp [hFl])]
     simp [hFl]
   have hSB:∀ R G,Ck 1 [i + 1] (spF n V (outE (E.take k)) ++ [R]) ((spF n V (outE (E.take k))).set i G ++ [R]):=fun R G=>by
     rw [← List.set_append_left _ _ (by omega)]
     exact Kc (by simp;omega)
   generalize hF:spF n V (outE (E.take k))=FF at *
   generalize hT:spT n V (outE (E.take k))=TT at *
   generalize hD:outE (E.take k) i=Di at *
   have hEx:(!Di.isEmpty || (Di.map (AV.int .i64)).isEmpty)=true:=by cases Di<;>rfl
   have hDl:Di.length ≤ 5000:=by rw [← hD];have:=Wi (E.take k) i;simp at this;omega
   refine W_T ?_
   (repeat' (first|(simp (disch:=omega) only [push_cast,↓zz,seval,hP,hre,hi,hFl,hTl,gI,gR,gR2,sR,sI,tI,List.cons_append,List.length_append,List.length_cons])|(with_reducible first|refine And.intro ?_ ?_|(first|refine Ab ?_ ?_|refine Aa ?_ ?_)<;>intro hc<;>(try simp only [push_cast] at hc))|omega|with_reducible intro _))
   refine Cl [i + 1] ?_
   (repeat' (first|(simp (disch:=omega) only [push_cast,↓zz,seval,xx,List.mem_cons,List.not_mem_nil,or_false,false_or,not_or,not_false_eq_true,true_or,or_true,hP,hre,hi,hFl,hTl,gI,gR,gR2,sR,sI,tI,List.cons_append,List.length_append,List.length_cons,hni,hEx])|(with_reducible first|refine And.intro ?_ ?_|(first|refine Ab ?_ ?_|refine Aa ?_ ?_)<;>intro hc<;>(try simp only [push_cast] at hc))|omega|with_reducible intro _))
   · exact hSB _ _
   refine ⟨(k + 1,setV V i (V i + 1)),zra (gar:=[⟨2,1,true,[.agg [.int .i64 i,.int .i64 e.2]]⟩]) hPF ?_ ?_ ?_ ?_ ?_ ?_ ?_,by simp only;omega,by simp only;omega⟩
   · rw [spL,e1,← hF,← hT,← hD,znl hin,znm hin]
     rfl
   all_goals rfl
 · obtain rfl:k=E.length:=by omega
   simp only [Js,spL]
   refine W_T ?_
   (repeat' (first|(simp (disch:=omega) only [push_cast,↓zz,seval,hP])|(with_reducible first|refine And.intro ?_ ?_|(first|refine Ab ?_ ?_|refine Aa ?_ ?_)<;>intro hc<;>(try simp only [push_cast] at hc))|omega|with_reducible intro _))
   have hsl:(⟨1,1,true,spT n V (outE E)⟩ :: spF n V (outE E):List Grp)=spL n E E.length V:=by rw [spL,List.take_length]
   rw [hsl]
   have el:Mv n FV E E.length=[(0,.int .i64 n),(1,FV),(7,Mu n (outE E))]:=by
     simp only [Mv,List.take_length]
   refine zbu (zd7 (F:=FV) (E:=E) (k:=E.length) (V:=V) hPF rfl rfl rfl) ?_
   rw [el]
   exact h
theorem Q1 (n:Nat) (F:List Int) (E:List (Int × Int)) (hn:n ≤ 1024) (h0:F ≠ []) (hFl:F.length ≤ 5000) (hEl:E.length ≤ 5000) (hr:InR n F E) :
   PC Tryz.prog 58 [.int .i64 n,C2 F,Zo E] (Eq (Cj n F E)):=by
 have hPF:Ay (F.map (AV.int .i64))=true:=Cw .i64 _
 refine znk K4 (Tq n (C2 F) hPF E hn hEl ⟨by simp,hr.e⟩ (W_T ?_))
 unfold Ea
 simp only [zd8,Mu]
 have pL:Ay ((List.range n).map fun i=>C2 (outE E i))=true:=Cc.2 fun x hx=>by
   obtain ⟨i,_,rfl⟩:=List.mem_map.1 hx
   exact Cw .i64 _
 have lL:((List.range n).map fun i=>C2 (outE E i)).length=n:=by simp
 have aL:∀ i,i < n→((List.range n).map fun i=>C2 (outE E i)).getD i .any=C2 (outE E i):=fun i hi=>Bq hi
 have aL2:∀ i,i < n→((List.range n).map fun i=>C2 (outE E i))[i]? = some (C2 (outE E i)):=fun i hi=>by simp [hi]
 generalize hLe:(List.range n).map (fun i=>C2 (outE E i))=L at *
 have fB:List.replicate n (AV.bool false)=spB n fun _=>false:=by
   refine List.ext_getElem (by simp [spB]) fun i h1 h2=>?_
   simp [spB]
 have pB:∀ on,Ay (spB n on)=true:=fun on=>Cc.2 fun x hx=>by
   obtain ⟨i,_,rfl⟩:=List.mem_map.1 hx
   rfl
 have lB:∀ on,(spB n on).length=n:=fun on=>by simp [spB]
 have aB:∀ on i,i < n→(spB n on).getD i .any=.bool (on i):=fun on i hi=>Bq hi
 (repeat' (first|(simp (disch:=omega) only [push_cast,↓zz,seval,pL,lL])|(with_reducible first|refine And.intro ?_ ?_|(first|refine Ab ?_ ?_|refine Aa ?_ ?_)<;>intro hc<;>(try simp only [push_cast] at hc))|omega|with_reducible intro _))
 (refine Hv [] (z2e F h0 (by omega)) (by decide) (by simp) (by (simp (disch:=omega) only [push_cast,↓zz,seval])) (by (simp (disch:=omega) only [push_cast,↓zz,seval])) (by (simp (disch:=omega) only [push_cast,↓zz,seval])) (by (simp (disch:=omega) only [push_cast,↓zz,seval,List.mem_cons,List.not_mem_nil,or_false,forall_eq_or_imp,forall_eq,List.forall_mem_nil])) ?_)
 rintro y H' ⟨rfl,rfl⟩
 refine ⟨_,rfl,by simp,?_⟩
 (repeat' (first|(simp (disch:=omega) only [push_cast,↓zz,seval,pL,lL])|(with_reducible first|refine And.intro ?_ ?_|(first|refine Ab ?_ ?_|refine Aa ?_ ?_)<;>intro hc<;>(try simp only [push_cast] at hc))|omega|with_reducible intro _))
 have hs0:=zd6 (fun _=>false) (fun i=>(outE E i).length) 5000 (fun i=>by have:=Wi E i;omega) n
 have hs1:n * (5000 + 1) ≤ 1024 * 5001:=Nat.mul_le_mul_right _ hn
 refine Ao (Ap (fun (s:(Nat→Bool) × List Int)=>z2d n F E s.1 s.2∧s.2.length + sumU n s.1 (fun i=>(outE E i).length) ≤ 6000000) (fun s=>s.2.length + sumU n s.1 (fun i=>(outE E i).length))
   (fun s=>[(7,.lst 1 L),(10,.ref 0 1 0 n),(11,.ref 1 1 0 s.2.length)]) (fun s=>[⟨1,1,true,spB n s.1⟩,⟨1,1,false,s.2.map (AV.int .i64)⟩]) (fun env _=>[Aw 1 (env 10),Aw 1 (env 11)]) (fun _=>false,F) ⟨zi2 n F E,by simp only;omega⟩ ?_ ?_)
 · (repeat' (first|(simp (disch:=omega) only [push_cast,↓zz,seval,pL,lL,fB,pB,lB])|(with_reducible first|refine And.intro ?_ ?_|(first|refine Ab ?_ ?_|refine Aa ?_ ?_)<;>intro hc<;>(try simp only [push_cast] at hc))|omega|with_reducible intro _))
 rintro ⟨on,td⟩ ⟨hI,hb⟩
 simp only at hI hb
 clear hs0 hs1
 rcases List.eq_nil_or_concat td with rfl|⟨t,x,rfl⟩
 · have hd:=zd4 hr hI
   have hB:spB n on=(Cj n F E).map AV.bool:=by
     simp only [spB,Cj,List.map_map]
     exact List.map_congr_left fun i _=>by simp [hd i]
   have rl:=Du n F E
   have rt:List.take n (Cj n F E)=Cj n F E:=List.take_of_length_le (by rw [rl];exact Nat.le_refl _)
   refine W_T ?_
   (repeat' (first|(simp (disch:=omega) only [push_cast,↓zz,seval,pL,lL,hB,pB,lB,rl,rt])|(with_reducible first|refine And.intro ?_ ?_|(first|refine Ab ?_ ?_|refine Aa ?_ ?_)<;>intro hc<;>(try simp only [push_cast] at hc))|omega|with_reducible intro _))
 · rw [List.concat_eq_append] at *
   have hx:=(hI.r1 x (by simp)).rng hr
   obtain ⟨s,rfl⟩:∃ s:Nat,x=s:=⟨x.toNat,by omega⟩
   have hsn:s < n:=by omega
   have aS:=aL s hsn
   have aS2:=aL2 s hsn
   have aBs:=aB on s hsn
   have j0:(t.map (AV.int .i64) ++ [AV.int .i64 (s:Int)]).getD t.length .any=.int .i64 s:=by simp [List.getD]
   have j1:nth (t ++ [(s:Int)]) t.length=s:=by simp [nth]
   have hll:(t ++ [(s:Int)]).length=t.length + 1:=by simp
   rw [hll] at hb ⊢
   refine Rp (W_T ?_)
   (repeat' (first|(simp (disch:=omega) only [push_cast,↓zz,seval,pL,lL])|(with_reducible first|refine And.intro ?_ ?_|(first|refine Ab ?_ ?_|refine Aa ?_ ?_)<;>intro hc<;>(try simp only [push_cast] at hc))|omega|with_reducible intro _))
   refine z9k (Rp (W_T ?_))
   (repeat' (first|(simp (disch:=omega) only [push_cast,↓zz,seval,pL,lL,pB,lB,j0])|(with_reducible first|refine And.intro ?_ ?_|(first|refine Ab ?_ ?_|refine Aa ?_ ?_)<;>intro hc<;>(try simp only [push_cast] at hc))|omega|with_reducible intro _))
   refine Rp (W_T ?_)
   (repeat' (first|(simp (disch:=omega) only [push_cast,↓zz,seval,pL,lL,pB,lB])|(with_reducible first|refine And.intro ?_ ?_|(first|refine Ab ?_ ?_|refine Aa ?_ ?_)<;>intro hc<;>(try simp only [push_cast] at hc))|omega|with_reducible intro _))
   refine zbu (H':=Abs.hl [⟨1,1,true,spB n on⟩,⟨1,1,false,t.map (AV.int .i64)⟩]) (zbx (g:=1) (t.map (AV.int .i64)) [.int .i64 s] (by decide) (by simp) rfl) (W_T ?_)
   have hsk:=@zni n s F E on t hI
   have htk:=znj hI
   have hsu:=fun h=>z5l (on:=on) (deg:=fun i=>(outE E i).length) (s:=s) h hsn
   have fs:=Q0 (on:=on) hsn
   have hoe:=Wi E s
   cases hon:on s with
   | true =>
     rw [hon] at aBs
     (repeat' (first|(simp (disch:=omega) only [push_cast,↓zz,seval,pL,lL,pB,lB,aBs])|(with_reducible first|refine And.intro ?_ ?_|(first|refine Ab ?_ ?_|refine Aa ?_ ?_)<;>intro hc<;>(try simp only [push_cast] at hc))|omega|with_reducible intro _))
     all_goals
       refine ⟨(on,t),?_⟩
       (repeat' (first|(simp (disch:=omega) only [push_cast,↓zz,seval])|(with_reducible first|refine And.intro ?_ ?_|(first|refine Ab ?_ ?_|refine Aa ?_ ?_)<;>intro hc<;>(try simp only [push_cast] at hc))|omega|with_reducible intro _))
       exact hsk hon
   | false =>
     rw [hon] at aBs
     (repeat' (first|(simp (disch:=omega) only [push_cast,↓zz,seval,pL,lL,pB,lB,aBs,aS,aS2,fs])|(with_reducible first|refine And.intro ?_ ?_|(first|refine Ab ?_ ?_|refine Aa ?_ ?_)<;>intro hc<;>(try simp only [push_cast] at hc))|omega|with_reducible intro _))
     all_goals
       refine ⟨(setB on s,t ++ outE E s),?_⟩
       (repeat' (first|(simp (disch:=omega) only [push_cast,↓zz,seval,List.map_append,List.length_append])|(with_reducible first|refine And.intro ?_ ?_|(first|refine Ab ?_ ?_|refine Aa ?_ ?_)<;>intro hc<;>(try simp only [push_cast] at hc))|omega|with_reducible intro _))
       all_goals (have h5:=hsu hon;omega)
theorem Zp {E:List (Int × Int)} {s:Int}:¬ Reach E [] s:=fun h=>by
 induction h with
 | base h=>cases h
 | step _ _ ih=>exact ih
theorem z8p (n:Nat) (E:List (Int × Int)) (hn:n ≤ 1024) (hEl:E.length ≤ 5000) (hr:InR n [] E) :
   PC Tryz.prog 58 [.int .i64 n,.nilS,Zo E] (Eq (Cj n [] E)):=by
 refine znk K4 (Tq n .nilS rfl E hn hEl hr (W_T ?_))
 unfold Ea
 simp only [zd8,Mu]
 have pL:Ay ((List.range n).map fun i=>C2 (outE E i))=true:=Cc.2 fun x hx=>by
   obtain ⟨i,_,rfl⟩:=List.mem_map.1 hx
   exact Cw .i64 _
 have lL:((List.range n).map fun i=>C2 (outE E i)).length=n:=by simp
 generalize hLe:(List.range n).map (fun i=>C2 (outE E i))=L at *
 have fB:List.replicate n (AV.bool false)=(Cj n [] E).map AV.bool:=by
   refine List.ext_getElem (by simp [Cj]) fun i h1 h2=>?_
   simp [Cj,C3,Zp]
 have pB:Ay ((Cj n [] E).map AV.bool)=true:=Dn (fun _=>rfl) _
 have rl:=Du n [] E
 have rt:List.take n (Cj n [] E)=Cj n [] E:=List.take_of_length_le (by rw [rl];exact Nat.le_refl _)
 (repeat' (first|(simp (disch:=omega) only [push_cast,↓zz,seval,pL,lL])|(with_reducible first|refine And.intro ?_ ?_|(first|refine Ab ?_ ?_|refine Aa ?_ ?_)<;>intro hc<;>(try simp only [push_cast] at hc)|refine eK Gy ?_|refine eQ Gy ?_|refine eG Gy ?_)|((with_reducible first|refine cK Gy ?_|refine cQ Gy ?_|refine cG Gy ?_);(simp (disch:=omega) only [push_cast,↓zz,seval,pL,lL]);(fail_if_success with_reducible change False))|omega|with_reducible intro _))
 refine Ao (Ap (fun (_:Unit)=>True) (fun _=>0)
   (fun s=>[(7,.lst 1 L),(10,.ref 0 1 0 n),(11,.nilS)]) (fun s=>[⟨1,1,true,(Cj n [] E).map AV.bool⟩]) (fun env _=>[Aw 1 (env 10)]) () trivial ?_ ?_)
 · (repeat' (first|(simp (disch:=omega) only [push_cast,↓zz,seval,pL,lL,fB,pB])|(with_reducible first|refine And.intro ?_ ?_|(first|refine Ab ?_ ?_|refine Aa ?_ ?_)<;>intro hc<;>(try simp only [push_cast] at hc))|omega|with_reducible intro _))
 rintro ⟨⟩ _
 refine W_T ?_
 (repeat' (first|(simp (disch:=omega) only [push_cast,↓zz,seval,pL,lL,pB,rl,rt])|(with_reducible first|refine And.intro ?_ ?_|(first|refine Ab ?_ ?_|refine Aa ?_ ?_)<;>intro hc<;>(try simp only [push_cast] at hc))|omega|with_reducible intro _))
 all_goals trace_state
def E0 {α:Type} (p:α→Bool):List α→Nat→Option Nat
 | [],_=>none
 | x :: l,i=>if p x then E0 p l (i + 1) else some i
theorem Oj {α:Type} [Inhabited α] {p:α→Bool} {l:List α} {k:Nat} (h:k < l.length):E0 p (l.drop k) k=if p (nth l k) then E0 p (l.drop (k + 1)) (k + 1) else some k:=by rw [drop_at h,E0]
theorem Gz {α:Type} {p:α→Bool}:∀ {l:List α} {i:Nat},E0 p l i=none→∀ x ∈ l,p x=true
 | [],_,_,_,h=>by cases h
 | y :: l,i,h,x,hx=>by
   rw [E0] at h
   split at h
   · rename_i hp
     rcases List.mem_cons.1 hx with rfl|hx
     · exact hp
     · exact Gz h x hx
   · cases h
def C9 (d:Desc) (f:Fc):Bool:=Gw d f.from_ && (Cy d.in_ f.guards && De d f.out f.guards)
open Classical in
noncomputable def Dz (d:Desc):Int × Int :=
 if Ms d=false then (1,0) else
   match E0 (Ek d) d.rules 0 with
   | some i=>(2,i)
   | none=>match E0 (C9 d) d.finals 0 with
     | some i=>(3,i)
     | none=>if cycP d.rules d.states.toNat then (4,0) else (0,0)
def Hh (d:Desc):Prop:=(∀ r ∈ d.rules,∀ t ∈ r.out,t.parts.length < 1000000000000)∧∀ f ∈ d.finals,∀ t ∈ f.out,t.parts.length < 1000000000000
theorem zd9 {d:Desc} (h:Ms d=true):(1 ≤ d.states∧d.states ≤ 1024)∧d.rules.length ≤ 4096∧d.finals.length ≤ 4096∧0 ≤ d.start∧d.start < d.states:=by
 simp only [Ms,Gw,Bool.and_eq_true,decide_eq_true_eq] at h
 omega
theorem Wk {d:Desc} {r:Rule} (h:Ek d r=true):(0 ≤ r.from_∧r.from_ < d.states)∧0 ≤ r.to_∧r.to_ < d.states:=by
 simp only [Ek,Gw,Bool.and_eq_true,decide_eq_true_eq] at h
 omega
theorem z8q (d:Desc) (hf:Hh d):PC Tryz.prog 48 [By d] (.tup [.int .i64 (Dz d).1,.int .i64 (Dz d).2]):=by
 have hH:=zcx d
 have hPr:=Bj d.rules
 have hPf:=Bg d.finals
 refine A9 Ye ?_
 unfold Na
 cases hh:Ms d with
 | false =>
   rw [hh] at hH
   rw [Dz,if_pos hh]
   (repeat' (first|(simp (disch:=omega) only [push_cast,↓zz,seval])|(with_reducible first|refine And.intro ?_ ?_|(first|refine Ab ?_ ?_|refine Aa ?_ ?_)<;>intro hc<;>(try simp only [push_cast] at hc)|refine eK hH ?_|refine eQ hH ?_|refine eG hH ?_)|((with_reducible first|refine cK hH ?_|refine cQ hH ?_|refine cG hH ?_);(simp (disch:=omega) only [push_cast,↓zz,seval]);(fail_if_success with_reducible change False))|omega|with_reducible intro _))
 | true =>
 rw [hh] at hH
 obtain ⟨b1,b2,b3,b4⟩:=zd9 hh
 have hW:Dz d=match E0 (Ek d) d.rules 0 with
   | some i=>(2,(i:Int))
   | none=>match E0 (C9 d) d.finals 0 with
     | some i=>(3,(i:Int))
     | none=>if (@decide (cycP d.rules d.states.toNat) (Classical.propDecidable _))=true then (4,0) else (0,0):=by
   rw [Dz,if_neg (by simp [hh])]
   split
   · rfl
   · split
     · rfl
     · by_cases hc:cycP d.rules d.states.toNat
       · rw [if_pos hc,if_pos (@decide_eq_true _ (Classical.propDecidable _) hc)]
       · rw [if_neg hc,if_neg (by rw [@decide_eq_false _ (Classical.propDecidable _) hc];simp)]
 (repeat' (first|(simp (disch:=omega) only [push_cast,↓zz,seval])|(with_reducible first|refine And.intro ?_ ?_|(first|refine Ab ?_ ?_|refine Aa ?_ ?_)<;>intro hc<;>(try simp only [push_cast] at hc)|refine eK hH ?_|refine eQ hH ?_|refine eG hH ?_)|((with_reducible first|refine cK hH ?_|refine cQ hH ?_|refine cG hH ?_);(simp (disch:=omega) only [push_cast,↓zz,seval]);(fail_if_success with_reducible change False))|omega|with_reducible intro _))
 refine Ao (Ap (fun (k:Nat)=>k ≤ d.rules.length∧E0 (Ek d) d.rules 0=E0 (Ek d) (d.rules.drop k) k) (fun k=>d.rules.length - k)
   (fun k=>[(1,.ptr 0 1 0 0),(12,F5 d.rules),(13,.int .i64 d.rules.length),(14,.int .i64 k)]) (fun k=>[⟨6,1,true,[By d]⟩]) (fun env _=>[Aw 1 (env 1)]) 0 ⟨by simp,rfl⟩ ?_ ?_)
 · (repeat' (first|(simp (disch:=omega) only [push_cast,↓zz,seval,hPr,hPf])|(with_reducible first|refine And.intro ?_ ?_|(first|refine Ab ?_ ?_|refine Aa ?_ ?_)<;>intro hc<;>(try simp only [push_cast] at hc))|omega|with_reducible intro _))
 rintro k ⟨k1,k2⟩
 rcases Nat.lt_or_ge k d.rules.length with hk|hk
 · have hr:=zcy d (nth d.rules k) (hf.1 _ (Au hk))
   rw [Oj hk] at k2
   cases hb:Ek d (nth d.rules k) with
   | false =>
     rw [hb] at hr k2
     simp only [Bool.false_eq_true,if_false] at k2
     rw [hW,k2]
     refine W_T ?_
     (repeat' (first|(simp (disch:=omega) only [push_cast,↓zz,seval,hPr,hPf])|(with_reducible first|refine And.intro ?_ ?_|(first|refine Ab ?_ ?_|refine Aa ?_ ?_)<;>intro hc<;>(try simp only [push_cast] at hc)|refine eK hr ?_|refine eQ hr ?_|refine eG hr ?_)|((with_reducible first|refine cK hr ?_|refine cQ hr ?_|refine cG hr ?_);(simp (disch:=omega) only [push_cast,↓zz,seval,hPr,hPf]);(fail_if_success with_reducible change False))|omega|with_reducible intro _))
   | true =>
     rw [hb] at hr k2
     simp only [if_true] at k2
     refine W_T ?_
     (repeat' (first|(simp (disch:=omega) only [push_cast,↓zz,seval,hPr,hPf])|(with_reducible first|refine And.intro ?_ ?_|(first|refine Ab ?_ ?_|refine Aa ?_ ?_)<;>intro hc<;>(try simp only [push_cast] at hc)|refine eK hr ?_|refine eQ hr ?_|refine eG hr ?_)|((with_reducible first|refine cK hr ?_|refine cQ hr ?_|refine cG hr ?_);(simp (disch:=omega) only [push_cast,↓zz,seval,hPr,hPf]);(fail_if_success with_reducible change False))|omega|with_reducible intro _))
     all_goals exact ⟨k + 1,by push_cast,⟨by omega,k2⟩,by omega⟩
 · rw [List.drop_of_length_le hk,E0] at k2
   have hall:=Gz k2
   have hC:=z8n d ⟨b1,b2,fun r hr=>Wk (hall r hr)⟩
   rw [k2] at hW
   simp only at hW
   refine W_T ?_
   (repeat' (first|(simp (disch:=omega) only [push_cast,↓zz,seval,hPr,hPf])|(with_reducible first|refine And.intro ?_ ?_|(first|refine Ab ?_ ?_|refine Aa ?_ ?_)<;>intro hc<;>(try simp only [push_cast] at hc))|omega|with_reducible intro _))
   refine Ao (Ap (fun (k:Nat)=>k ≤ d.finals.length∧E0 (C9 d) d.finals 0=E0 (C9 d) (d.finals.drop k) k) (fun k=>d.finals.length - k)
     (fun k=>[(1,.ptr 0 1 0 0),(26,Pm d.finals),(27,.int .i64 d.finals.length),(28,.int .i64 k)]) (fun k=>[⟨6,1,true,[By d]⟩]) (fun env _=>[Aw 1 (env 1)]) 0 ⟨by simp,rfl⟩ ?_ ?_)
   · (repeat' (first|(simp (disch:=omega) only [push_cast,↓zz,seval,hPr,hPf])|(with_reducible first|refine And.intro ?_ ?_|(first|refine Ab ?_ ?_|refine Aa ?_ ?_)<;>intro hc<;>(try simp only [push_cast] at hc))|omega|with_reducible intro _))
   rintro j ⟨j1,j2⟩
   rcases Nat.lt_or_ge j d.finals.length with hj|hj
   · generalize hfe:nth d.finals j=f at *
     have hfm:f ∈ d.finals:=by rw [← hfe];exact Au hj
     have hfo:=hf.2 f hfm
     have h1:=I5 d f.from_
     have h2:=Qw d.in_ f.guards
     have hP:=Ae f.guards
     have hT:=Bb f.out
     rw [Oj hj,hfe] at j2
     cases hg:Cy d.in_ f.guards with
     | false =>
       have hb:C9 d f=false:=by rw [C9,hg];simp
       rw [hg] at h2
       rw [hb] at j2
       simp only [Bool.false_eq_true,if_false] at j2
       rw [hW,j2]
       refine W_T ?_
       (repeat' (first|(simp (disch:=omega) only [push_cast,↓zz,seval,hPr,hPf,hfe,hP,hT])|(with_reducible first|refine And.intro ?_ ?_|(first|refine Ab ?_ ?_|refine Aa ?_ ?_)<;>intro hc<;>(try simp only [push_cast] at hc)|refine eK h1 ?_|refine eQ h1 ?_|refine eG h1 ?_|refine eK h2 ?_|refine eQ h2 ?_|refine eG h2 ?_)|((with_reducible first|refine cK h1 ?_|refine cQ h1 ?_|refine cG h1 ?_);(simp (disch:=omega) only [push_cast,↓zz,seval,hPr,hPf,hfe,hP,hT]);(fail_if_success with_reducible change False))|((with_reducible first|refine cK h2 ?_|refine cQ h2 ?_|refine cG h2 ?_);(simp (disch:=omega) only [push_cast,↓zz,seval,hPr,hPf,hfe,hP,hT]);(fail_if_success with_reducible change False))|omega|with_reducible intro _))
     | true =>
       rw [hg] at h2
       obtain ⟨g1,g2⟩:=Fb hg
       have h4:=Qy d f.out f.guards hfo (fun g hg=>by have:=g2 g hg;omega) (by omega)
       cases hb:C9 d f with
       | false =>
         rw [hb] at j2
         simp only [Bool.false_eq_true,if_false] at j2
         rw [hW,j2]
         rw [C9,hg,Bool.true_and] at hb
         refine W_T ?_
         (repeat' (first|(simp (disch:=omega) only [push_cast,↓zz,seval,hPr,hPf,hfe,hP,hT])|(with_reducible first|refine And.intro ?_ ?_|(first|refine Ab ?_ ?_|refine Aa ?_ ?_)<;>intro hc<;>(try simp only [push_cast] at hc)|refine eK h1 ?_|refine eQ h1 ?_|refine eG h1 ?_|refine eK h2 ?_|refine eQ h2 ?_|refine eG h2 ?_|refine eK h4 ?_|refine eQ h4 ?_|refine eG h4 ?_)|((with_reducible first|refine cK h1 ?_|refine cQ h1 ?_|refine cG h1 ?_);(simp (disch:=omega) only [push_cast,↓zz,seval,hPr,hPf,hfe,hP,hT]);(fail_if_success with_reducible change False))|((with_reducible first|refine cK h2 ?_|refine cQ h2 ?_|refine cG h2 ?_);(simp (disch:=omega) only [push_cast,↓zz,seval,hPr,hPf,hfe,hP,hT]);(fail_if_success with_reducible change False))|((with_reducible first|refine cK h4 ?_|refine cQ h4 ?_|refine cG h4 ?_);(simp (disch:=omega) only [push_cast,↓zz,seval,hPr,hPf,hfe,hP,hT]);(fail_if_success with_reducible change False))|omega|with_reducible intro _))
         all_goals first
           | (exfalso;simp_all;done)
           | trace_state
       | true =>
         rw [hb] at j2
         simp only [if_true] at j2
         rw [C9,hg,Bool.true_and,Bool.and_eq_true] at hb
         rw [hb.1] at h1
         rw [hb.2] at h4
         refine W_T ?_
         (repeat' (first|(simp (disch:=omega) only [push_cast,↓zz,seval,hPr,hPf,hfe,hP,hT])|(with_reducible first|refine And.intro ?_ ?_|(first|refine Ab ?_ ?_|refine Aa ?_ ?_)<;>intro hc<;>(try simp only [push_cast] at hc)|refine eK h1 ?_|refine eQ h1 ?_|refine eG h1 ?_|refine eK h2 ?_|refine eQ h2 ?_|refine eG h2 ?_|refine eK h4 ?_|refine eQ h4 ?_|refine eG h4 ?_)|((with_reducible first|refine cK h1 ?_|refine cQ h1 ?_|refine cG h1 ?_);(simp (disch:=omega) only [push_cast,↓zz,seval,hPr,hPf,hfe,hP,hT]);(fail_if_success with_reducible change False))|((with_reducible first|refine cK h2 ?_|refine cQ h2 ?_|refine cG h2 ?_);(simp (disch:=omega) only [push_cast,↓zz,seval,hPr,hPf,hfe,hP,hT]);(fail_if_success with_reducible change False))|((with_reducible first|refine cK h4 ?_|refine cQ h4 ?_|refine cG h4 ?_);(simp (disch:=omega) only [push_cast,↓zz,seval,hPr,hPf,hfe,hP,hT]);(fail_if_success with_reducible change False))|omega|with_reducible intro _))
         all_goals exact ⟨j + 1,by push_cast,⟨by omega,j2⟩,by omega⟩
   · rw [List.drop_of_length_le hj,E0] at j2
     rw [j2] at hW
     simp only at hW
     generalize @decide (cycP d.rules d.states.toNat) (Classical.propDecidable _)=c at *
     refine W_T ?_
     rw [hW]
     cases c
     · (repeat' (first|(simp (disch:=omega) only [push_cast,↓zz,seval,hPr,hPf])|(with_reducible first|refine And.intro ?_ ?_|(first|refine Ab ?_ ?_|refine Aa ?_ ?_)<;>intro hc<;>(try simp only [push_cast] at hc)|refine eK hC ?_|refine eQ hC ?_|refine eG hC ?_)|((with_reducible first|refine cK hC ?_|refine cQ hC ?_|refine cG hC ?_);(simp (disch:=omega) only [push_cast,↓zz,seval,hPr,hPf]);(fail_if_success with_reducible change False))|omega|with_reducible intro _))
     · (repeat' (first|(simp (disch:=omega) only [push_cast,↓zz,seval,hPr,hPf])|(with_reducible first|refine And.intro ?_ ?_|(first|refine Ab ?_ ?_|refine Aa ?_ ?_)<;>intro hc<;>(try simp only [push_cast] at hc)|refine eK hC ?_|refine eQ hC ?_|refine eG hC ?_)|((with_reducible first|refine cK hC ?_|refine cQ hC ?_|refine cG hC ?_);(simp (disch:=omega) only [push_cast,↓zz,seval,hPr,hPf]);(fail_if_success with_reducible change False))|omega|with_reducible intro _))
       all_goals trace_state
noncomputable def Cp (d:Desc):Int:=if (Dz d).1=0 then 0 else 2
theorem I7 (d:Desc) (hf:Hh d):PC Tryz.prog 23 [By d] (.int .i64 (Cp d)):=by
 have hW:=z8q d hf
 refine A9 Ya ?_
 unfold M6 Cp
 generalize Dz d=w at *
 by_cases h:w.1=0
 · rw [if_pos h]
   (repeat' (first|(simp (disch:=omega) only [push_cast,↓zz,seval,h])|(with_reducible first|refine And.intro ?_ ?_|(first|refine Ab ?_ ?_|refine Aa ?_ ?_)<;>intro hc<;>(try simp only [push_cast] at hc)|refine eK hW ?_|refine eQ hW ?_|refine eG hW ?_)|((with_reducible first|refine cK hW ?_|refine cQ hW ?_|refine cG hW ?_);(simp (disch:=omega) only [push_cast,↓zz,seval,h]);(fail_if_success with_reducible change False))|omega|with_reducible intro _))
 · rw [if_neg h]
   (repeat' (first|(simp (disch:=omega) only [push_cast,↓zz,seval,h])|(with_reducible first|refine And.intro ?_ ?_|(first|refine Ab ?_ ?_|refine Aa ?_ ?_)<;>intro hc<;>(try simp only [push_cast] at hc)|refine eK hW ?_|refine eQ hW ?_|refine eG hW ?_)|((with_reducible first|refine cK hW ?_|refine cQ hW ?_|refine cG hW ?_);(simp (disch:=omega) only [push_cast,↓zz,seval,h]);(fail_if_success with_reducible change False))|omega|with_reducible intro _))
   all_goals trace_state
theorem fold_at {α β:Type} [Inhabited α] {f:β→α→β} {l:List α} {k:Nat} {s:β} (h:k < l.length):(l.drop k).foldl f s=(l.drop (k + 1)).foldl f (f s (nth l k)):=by rw [drop_at h,List.foldl_cons]
def freeB (d:Desc):Bool:=d.rules.all fun r=>!Ei r
def widF (n:Int) (r:Rule):Int:=max n r.guards.length
def zrc (d:Desc):Int:=d.rules.foldl widF 0
def aheF (n:Int) (r:Rule):Int:=max n (r.guards.length - max r.eat 0)
def zrd (d:Desc):Int:=d.rules.foldl aheF 0
def lonF (n:Int) (r:Rule):Int:=max n r.out.length
def lonG (n:Int) (f:Fc):Int:=max n f.out.length
def longV (d:Desc):Int:=d.finals.foldl lonG (d.rules.foldl lonF 0)
theorem z8r (a b:Int):PC Tryz.prog 26 [.int .i64 a,.int .i64 b] (By ⟨a,b,1,0,[],[]⟩):=by
 refine A9 Yc ?_
 unfold M8
 (repeat' (first|(simp (disch:=omega) only [push_cast,↓zz,seval])|(with_reducible first|refine And.intro ?_ ?_|(first|refine Ab ?_ ?_|refine Aa ?_ ?_)<;>intro hc<;>(try simp only [push_cast] at hc))|omega|with_reducible intro _))
 all_goals trace_state
theorem Q2 (l:List Span) (hl:l.length ≤ 1000000000000):PC Tryz.prog 51 [Ad l] (Ad l):=by
 by_cases h0:l=[]
 · subst h0
   refine z42 ?_ ?_
   · refine A9 Cg ?_
     unfold Bz
     (repeat' (first|(simp (disch:=omega) only [push_cast,↓zz,seval])|(with_reducible first|refine And.intro ?_ ?_|(first|refine Ab ?_ ?_|refine Aa ?_ ?_)<;>intro hc<;>(try simp only [push_cast] at hc))|omega|with_reducible intro _))
   · refine A9 Cg ?_
     unfold Bz
     (repeat' (first|(simp (disch:=omega) only [push_cast,↓zz,seval])|(with_reducible first|refine And.intro ?_ ?_|(first|refine Ab ?_ ?_|refine Aa ?_ ?_)<;>intro hc<;>(try simp only [push_cast] at hc))|omega|with_reducible intro _))
 refine A9 Cg ?_
 unfold Bz
 (repeat' (first|(simp (disch:=omega) only [push_cast,↓zz,seval])|(with_reducible first|refine And.intro ?_ ?_|(first|refine Ab ?_ ?_|refine Aa ?_ ?_)<;>intro hc<;>(try simp only [push_cast] at hc))|omega|with_reducible intro _))
 all_goals trace_state
theorem zda {lo hi D q:Int} (hD:0 < D) (h:lo ≤ hi):(∃ x,lo ≤ x∧x ≤ hi∧x / D=q) ↔ lo / D ≤ q∧q ≤ hi / D:=by
 constructor
 · rintro ⟨x,h1,h2,rfl⟩
   exact ⟨Int.ediv_le_ediv hD h1,Int.ediv_le_ediv hD h2⟩
 · rintro ⟨h1,h2⟩
   rcases Int.lt_or_eq_of_le h1 with h3|h3
   · refine ⟨q * D,?_,?_,Int.mul_ediv_cancel _ (by omega)⟩
     · have:=(Int.ediv_lt_iff_lt_mul hD).1 h3;omega
     · exact (Int.le_ediv_iff_mul_le hD).1 h2
   · exact ⟨lo,Int.le_refl _,h,h3⟩
theorem Wl {x y M:Int} (hM:0 < M) (h1:x ≤ y) (h2:y - x < M):y / M=x / M ∨ y / M=x / M + 1:=by
 have a:=Int.ediv_le_ediv hM h1
 have c:y / M ≤ (x + M * 1) / M:=Int.ediv_le_ediv hM (by omega)
 rw [Int.add_mul_ediv_left _ _ (by omega)] at c
 omega
theorem Ol {w M k:Int} (h:0 ≤ w∧w < M):(M * k + w) % M=w:=by
 rw [Int.add_comm,Int.add_mul_emod_self_left,Int.emod_eq_of_lt h.1 h.2]
theorem zdb {a b M w:Int} (hM:0 < M) (hab:a ≤ b) (hs:b - a < M - 1) :
   (∃ q,a ≤ q∧q ≤ b∧q % M=w) ↔ if a % M ≤ b % M then a % M ≤ w∧w ≤ b % M else (0 ≤ w∧w ≤ b % M) ∨ (a % M ≤ w∧w ≤ M - 1):=by
 have ea:=Int.mul_ediv_add_emod a M
 have eb:=Int.mul_ediv_add_emod b M
 have a1:=Int.emod_nonneg a (by omega:M ≠ 0)
 have a2:=Int.emod_lt_of_pos a hM
 have b1:=Int.emod_nonneg b (by omega:M ≠ 0)
 have b2:=Int.emod_lt_of_pos b hM
 constructor
 · rintro ⟨q,h1,h2,rfl⟩
   have eq:=Int.mul_ediv_add_emod q M
   have q1:=Int.emod_nonneg q (by omega:M ≠ 0)
   have q2:=Int.emod_lt_of_pos q hM
   have k1:=Wl hM hab (by omega)
   have k2:=Wl hM h1 (by omega)
   have e1:M * (a / M + 1)=M * (a / M) + M:=by rw [Int.mul_add,Int.mul_one]
   rcases k1 with k1|k1<;>rcases k2 with k2|k2<;>rw [k1] at eb<;>rw [k2] at eq<;>(try rw [e1] at eb)<;>(try rw [e1] at eq)<;>split<;>omega
 · intro h
   have k1:=Wl hM hab (by omega)
   have e1:M * (a / M + 1)=M * (a / M) + M:=by rw [Int.mul_add,Int.mul_one]
   rcases k1 with k1|k1
   · rw [k1] at eb
     rw [if_pos (by omega)] at h
     exact ⟨M * (a / M) + w,by omega,by omega,Ol (by omega)⟩
   · rw [k1,e1] at eb
     rw [if_neg (by omega)] at h
     rcases h with h|h
     · exact ⟨M * (a / M + 1) + w,by omega,by omega,Ol (by omega)⟩
     · exact ⟨M * (a / M) + w,by omega,by omega,Ol (by omega)⟩
theorem zi5 {a b M w:Int} (hM:0 < M) (hs:M - 1 ≤ b - a):(∃ q,a ≤ q∧q ≤ b∧q % M=w) ↔ 0 ≤ w∧w ≤ M - 1:=by
 constructor
 · rintro ⟨q,_,_,rfl⟩
   have q1:=Int.emod_nonneg q (by omega:M ≠ 0)
   have q2:=Int.emod_lt_of_pos q hM
   omega
 · intro h
   have e:=Int.mul_ediv_add_emod (w - a) M
   have q1:=Int.emod_nonneg (w - a) (by omega:M ≠ 0)
   have q2:=Int.emod_lt_of_pos (w - a) hM
   refine ⟨a + (w - a) % M,by omega,by omega,?_⟩
   have:a + (w - a) % M=M * (-((w - a) / M)) + w:=by rw [Int.mul_neg];omega
   rw [this,Ol (by omega)]
theorem z5n {d t:Nat} {s:Span} {w:Int} (hs:s.lo ≤ s.hi) (hn:¬ (2 ^ t - 1:Int) ≤ s.hi / 2 ^ d - s.lo / 2 ^ d):memL (imgS d t s) w ↔ ∃ x,(s.lo ≤ x∧x ≤ s.hi)∧x / 2 ^ d % 2 ^ t=w:=by
 have hD:(0:Int) < 2 ^ d:=Int.pow_pos (by decide)
 have hT:(0:Int) < 2 ^ t:=Int.pow_pos (by decide)
 have hab:=Int.ediv_le_ediv hD hs
 have key:(∃ x,(s.lo ≤ x∧x ≤ s.hi)∧x / 2 ^ d % 2 ^ t=w) ↔ ∃ q,s.lo / 2 ^ d ≤ q∧q ≤ s.hi / 2 ^ d∧q % 2 ^ t=w:=by
   constructor
   · rintro ⟨x,⟨h1,h2⟩,h3⟩
     exact ⟨x / 2 ^ d,Int.ediv_le_ediv hD h1,Int.ediv_le_ediv hD h2,h3⟩
   · rintro ⟨q,h1,h2,h3⟩
     obtain ⟨x,k1,k2,k3⟩:=(zda hD hs).2 ⟨h1,h2⟩
     exact ⟨x,⟨k1,k2⟩,by rw [k3];exact h3⟩
 rw [key,zdb hT hab (by omega),imgS]
 split
 · simp [Av,Bh]
 · simp [Av,Bh]
theorem z5o {d t:Nat} {w:Int}:∀ (l out:List Span),(∀ s ∈ l,s.lo ≤ s.hi)→(∀ v,memL out v→0 ≤ v∧v ≤ 2 ^ t - 1)→(memL (imgF d t l out) w ↔ memL out w ∨ ∃ x,memL l x∧x / 2 ^ d % 2 ^ t=w)
 | [],out,_,_=>by simp [imgF,Bh]
 | s :: l,out,h,ho=>by
   have hD:(0:Int) < 2 ^ d:=Int.pow_pos (by decide)
   have hT:(0:Int) < 2 ^ t:=Int.pow_pos (by decide)
   have hs:=h s (by simp)
   rw [imgF]
   split
   · rename_i hb
     have hf:=zi5 (w:=w) hT hb
     constructor
     · intro hw
       have hw':0 ≤ w∧w ≤ 2 ^ t - 1:=by simpa [allS,Av,Bh] using hw
       obtain ⟨q,h1,h2,h3⟩:=hf.2 hw'
       obtain ⟨x,k1,k2,k3⟩:=(zda hD hs).2 ⟨h1,h2⟩
       exact .inr ⟨x,Av.2 (.inl ⟨k1,k2⟩),by rw [k3];exact h3⟩
     · intro hw
       have:0 ≤ w∧w ≤ 2 ^ t - 1:=by
         rcases hw with hw|⟨x,_,rfl⟩
         · exact ho w hw
         · have q1:=Int.emod_nonneg (x / 2 ^ d) (by omega:(2:Int) ^ t ≠ 0)
           have q2:=Int.emod_lt_of_pos (x / 2 ^ d) hT
           omega
       simpa [allS,Av,Bh] using this
   · rename_i hb
     rw [z5o l _ (fun s hs=>h s (by simp [hs])) (fun v hv=>?_),Dx,z5n hs hb]
     · constructor
       · rintro ((h1|⟨x,h1,h2⟩)|⟨x,h1,h2⟩)
         · exact .inl h1
         · exact .inr ⟨x,Av.2 (.inl h1),h2⟩
         · exact .inr ⟨x,Av.2 (.inr h1),h2⟩
       · rintro (h1|⟨x,h1,h2⟩)
         · exact .inl (.inl h1)
         · rcases Av.1 h1 with h1|h1
           · exact .inl (.inr ⟨x,h1,h2⟩)
           · exact .inr ⟨x,h1,h2⟩
     · rcases Dx.1 hv with hv|hv
       · exact ho v hv
       · obtain ⟨x,_,rfl⟩:=(z5n hs hb).1 hv
         have q1:=Int.emod_nonneg (x / 2 ^ d) (by omega:(2:Int) ^ t ≠ 0)
         have q2:=Int.emod_lt_of_pos (x / 2 ^ d) hT
         omega
theorem mem_map {α:Type} {f:α→Span} {l:List α} {v:Int}:memL (l.map f) v ↔ ∃ a ∈ l,(f a).lo ≤ v∧v ≤ (f a).hi:=by
 simp only [memL,List.mem_map]
 exact ⟨fun ⟨_,⟨a,h,rfl⟩,h2⟩=>⟨a,h,h2⟩,fun ⟨a,h,h2⟩=>⟨_,⟨a,h,rfl⟩,h2⟩⟩
theorem z5p {p:Part} (s:List Span) (hb:Dg p=true):Plain (imgL p s)∧∀ v,memL (imgL p s) v ↔ ∃ x,memL s x∧(0 ≤ x∧x ≤ 2097151)∧valP p x=v:=by
 have hbi:=Dp.1 hb
 have ht:=Gs p.take.toNat (by omega)
 have hT:(0:Int) < 2 ^ p.take.toNat:=Int.pow_pos (by decide)
 obtain ⟨m1,m2,m3⟩:=z5f s
 have hF:∀ w,memL (imgF p.drop.toNat p.take.toNat (Eo (Ar s) (Ar topS)) []) w ↔ ∃ x,(memL s x∧0 ≤ x∧x ≤ 2097151)∧x / 2 ^ p.drop.toNat % 2 ^ p.take.toNat=w:=fun w=>by
   rw [z5o _ _ (fun t ht=>(m2 t ht).2.1) (fun v hv=>absurd hv (Bh v))]
   simp only [Bh,false_or,m3]
 have hr:∀ w,memL (imgF p.drop.toNat p.take.toNat (Eo (Ar s) (Ar topS)) []) w→0 ≤ w∧w ≤ 2 ^ p.take.toNat - 1:=fun w hw=>by
   obtain ⟨x,_,rfl⟩:=(hF w).1 hw
   have q1:=Int.emod_nonneg (x / 2 ^ p.drop.toNat) (by omega:(2:Int) ^ p.take.toNat ≠ 0)
   have q2:=Int.emod_lt_of_pos (x / 2 ^ p.drop.toNat) hT
   omega
 unfold imgL
 rw [if_neg (by simp [hb])]
 split
 · rename_i hu
   refine ⟨(Aq _).1,fun v=>?_⟩
   rw [(Aq _).2 v,hF]
   have e:∀ x,valP p x=x / 2 ^ p.drop.toNat % 2 ^ p.take.toNat:=fun x=>by simp [valP,hu]
   constructor
   · rintro ⟨⟨x,⟨h1,h2⟩,h3⟩,_⟩
     exact ⟨x,h1,h2,by rw [e];exact h3⟩
   · rintro ⟨x,h1,h2,h3⟩
     rw [e] at h3
     have:=hr v ((hF v).2 ⟨x,⟨h1,h2⟩,h3⟩)
     exact ⟨⟨x,⟨h1,h2⟩,h3⟩,by omega⟩
 · rename_i hu
   refine ⟨(Aq _).1,fun v=>?_⟩
   rw [(Aq _).2 v,mem_map]
   constructor
   · rintro ⟨⟨n,hn,h1,h2⟩,_⟩
     simp only [oneS] at h1 h2
     have hn':=Hf.1 hn
     rw [(Aq _).2,(Aq _).2] at hn'
     obtain ⟨x,⟨k1,k2⟩,k3⟩:=(hF n).1 hn'.1.1
     exact ⟨x,k1,k2,by rw [valP,k3];omega⟩
   · rintro ⟨x,h1,h2,h3⟩
     have hv:=Es hb h2
     have hm:=(hF (x / 2 ^ p.drop.toNat % 2 ^ p.take.toNat)).2 ⟨x,⟨h1,h2⟩,rfl⟩
     have:=hr _ hm
     refine ⟨⟨x / 2 ^ p.drop.toNat % 2 ^ p.take.toNat,Hf.2 ?_,?_⟩,by omega⟩
     · rw [(Aq _).2,(Aq _).2]
       exact ⟨⟨hm,by omega⟩,by omega⟩
     · rw [valP] at h3
       simp only [oneS]
       omega
def Full (l:List Span):Prop:=∀ s ∈ l,s.lo ≤ s.hi
theorem zdc {a b:List Span} (ha:Full a) (hb:Full b):Plain (Zi a b)∧∀ v,memL (Zi a b) v ↔ (∃ x y,memL a x∧memL b y∧x + y=v)∧-1073741824 ≤ v∧v ≤ 1073741824:=by
 refine ⟨(Aq _).1,fun v=>?_⟩
 rw [Zi,(Aq _).2 v,z1u,z5g]
 refine and_congr_left fun _=>?_
 constructor
 · rintro ⟨s,hs,h⟩
   obtain ⟨r,hr,h1,h2⟩:=mem_map.1 h
   simp only [sumS] at h1 h2
   have k1:=ha s hs
   have k2:=hb r hr
   refine ⟨max s.lo (v - r.hi),v - max s.lo (v - r.hi),⟨s,hs,by omega,by omega⟩,⟨r,hr,by omega,by omega⟩,by omega⟩
 · rintro ⟨x,y,⟨s,hs,h1,h2⟩,⟨r,hr,h3,h4⟩,rfl⟩
   exact ⟨s,hs,mem_map.2 ⟨r,hr,by simp only [sumS];omega,by simp only [sumS];omega⟩⟩
theorem zdd {out:List Span} {n:Int} (h:Full out):Full (addS out ⟨n,n⟩)∧∀ v,memL (addS out ⟨n,n⟩) v ↔ memL out v ∨ v=n:=by
 rcases Dt out with rfl|⟨m,y,rfl⟩
 · refine ⟨fun s hs=>?_,fun v=>?_⟩
   · simp only [Fj,List.mem_singleton] at hs;subst hs;simp
   · rw [Fj,Av];simp only [Bh,or_false,false_or];omega
 · have hy:=h y (by simp)
   rw [Gv]
   simp only
   split
   · rename_i he
     refine ⟨fun s hs=>?_,fun v=>?_⟩
     · rcases List.mem_append.1 hs with hs|hs
       · exact h s (by simp [hs])
       · simp only [List.mem_singleton] at hs;subst hs;simp only;omega
     · rw [Dx,Dx,Av,Av]
       simp only [Bh,or_false]
       constructor
       · rintro (h1|h1)
         · exact .inl (.inl h1)
         · by_cases hv:v=n
           · exact .inr hv
           · exact .inl (.inr (by omega))
       · rintro ((h1|h1)|h1)
         · exact .inl h1
         · exact .inr (by omega)
         · exact .inr (by omega)
   · refine ⟨fun s hs=>?_,fun v=>?_⟩
     · rcases List.mem_append.1 hs with hs|hs
       · exact h s hs
       · simp only [List.mem_singleton] at hs;subst hs;simp
     · rw [Dx,Av]
       simp only [Bh,or_false]
       have:(n ≤ v∧v ≤ n) ↔ v=n:=by omega
       rw [this]
theorem z5q (l:List Part) {v:Int}:∀ (m:List Int) (out:List Span),Full out→(memL (m.foldl (togF l) out) v ↔ memL out v ∨ ∃ x ∈ m,totV l x=v)
 | [],out,_=>by simp
 | x :: m,out,h=>by
   obtain ⟨h1,h2⟩:=zdd (n:=totV l x) h
   rw [List.foldl_cons,togF,z5q l m _ h1,h2]
   simp only [List.mem_cons,exists_eq_or_imp]
   constructor
   · rintro ((h|h)|h)
     · exact .inl h
     · exact .inr (.inl h.symm)
     · exact .inr (.inr h)
   · rintro (h|h|h)
     · exact .inl (.inl h)
     · exact .inl (.inr h.symm)
     · exact .inr h
theorem zi6 {l:List Part} {s:List Span} (hl:l.length ≤ 4) (hb:∀ p ∈ l,Dg p=true) (hs:Syms s):Plain (togL l s)∧∀ v,memL (togL l s) v ↔ ∃ x,memL s x∧totV l x=v:=by
 unfold togL
 split
 · rename_i h1
   obtain ⟨p,rfl⟩:=List.length_eq_one_iff.1 h1
   obtain ⟨i1,i2⟩:=z5p s (hb p (by simp))
   refine ⟨i1,fun v=>?_⟩
   have e:nth [p] 0=p:=rfl
   rw [e,i2]
   have e2:∀ x,totV [p] x=valP p x:=fun x=>by simp [totV]
   constructor
   · rintro ⟨x,h1,_,h3⟩;exact ⟨x,h1,by rw [e2];exact h3⟩
   · rintro ⟨x,h1,h3⟩
     have:=hs.mem h1
     exact ⟨x,h1,by omega,by rw [← e2];exact h3⟩
 · refine ⟨(Aq _).1,fun v=>?_⟩
   rw [(Aq _).2 v,z5q l _ _ (fun s hs=>by cases hs),Zl hs]
   simp only [Bh,false_or,Hf]
   constructor
   · rintro ⟨h,_⟩;exact h
   · rintro ⟨x,h1,rfl⟩
     have:=hs.mem h1
     have:=Ia (x:=x) (by omega) hb
     exact ⟨⟨x,h1,rfl⟩,by omega⟩
def Win (sets:List (List Span)) (w:List Int):Prop:=w.length=sets.length∧∀ i,i < sets.length→memL (nth sets i) (nth w i)
def Mw (l:List Part) (pl:List Int) (w:List Int):Int:=(pl.map fun a=>totV (atL l a) (nth w a.toNat)).sum
def totW (w:List Int) (l:List Part):Int:=(l.map fun p=>valP p (nth w p.at_.toNat)).sum
theorem Mx {w:List Int} {i j:Nat} {x:Int} (h:i < w.length):nth (w.set i x) j=if j=i then x else nth w j:=by
 simp only [nth,List.getD_eq_getElem?_getD,List.getElem?_set]
 split
 · subst_vars;simp [h]
 · rename_i hne;rw [if_neg (fun e=>hne e.symm)]
theorem Hi {α:Type} {f g:α→Int}:∀ {l:List α},(∀ a ∈ l,f a=g a)→(l.map f).sum=(l.map g).sum
 | [],_=>rfl
 | a :: l,h=>by simp [h a (by simp),Hi (l:=l) fun b hb=>h b (by simp [hb])]
theorem Q3 {α:Type} {f g:α→Int}:∀ {l:List α},(l.map fun a=>f a + g a).sum=(l.map f).sum + (l.map g).sum
 | []=>rfl
 | a :: l=>by
   have:=Q3 (f:=f) (g:=g) (l:=l)
   simp only [List.map_cons,List.sum_cons,this]
   omega
theorem Ic {α:Type} {f:α→Int}:∀ {l:List α},(∀ a ∈ l,f a=0)→(l.map f).sum=0
 | [],_=>rfl
 | a :: l,h=>by simp [h a (by simp),Ic (l:=l) fun b hb=>h b (by simp [hb])]
theorem Q4 {c:Int} {g:Int→Int}:∀ {l:List Int},l.Nodup→c ∈ l→(l.map fun a=>if c=a then g a else 0).sum=g c
 | [],_,h=>by cases h
 | a :: l,hn,h=>by
   obtain ⟨h1,h2⟩:=List.nodup_cons.1 hn
   by_cases e:c=a
   · subst e
     have:(l.map fun a=>if c=a then g a else 0).sum=0:=Ic fun b hb=>if_neg fun (e2:c=b)=>h1 (by rw [e2];exact hb)
     simp [this]
   · have hm:c ∈ l:=by simpa [e] using h
     simp [e,Q4 h2 hm]
theorem I8 (w:List Int):∀ (l:List Part) (pl:List Int),pl.Nodup→(∀ p ∈ l,p.at_ ∈ pl)→Mw l pl w=totW w l
 | [],pl,_,_=>Ic fun a _=>rfl
 | p :: l,pl,hn,h=>by
   have ih:=I8 w l pl hn fun q hq=>h q (by simp [hq])
   have e:∀ a ∈ pl,totV (atL (p :: l) a) (nth w a.toNat)=(if p.at_=a then valP p (nth w a.toNat) else 0) + totV (atL l a) (nth w a.toNat):=fun a _=>by
     simp only [atL,List.filter_cons,decide_eq_true_eq]
     split
     · simp [totV]
     · simp [totV]
   rw [Mw,Hi e,Q3,Q4 (g:=fun a=>valP p (nth w a.toNat)) hn (h p (by simp))]
   rw [Mw] at ih
   rw [ih]
   simp [totW]
theorem Q5:∀ (l:List Part) (pl:List Int),pl.Nodup→(l.foldl B4 pl).Nodup∧(∀ a,a ∈ l.foldl B4 pl ↔ a ∈ pl ∨ ∃ p ∈ l,p.at_=a)∧(l.foldl B4 pl).length ≤ pl.length + l.length
 | [],pl,h=>⟨h,fun a=>by simp,by simp⟩
 | p :: l,pl,h=>by
   have h1:(B4 pl p).Nodup∧(∀ a,a ∈ B4 pl p ↔ a ∈ pl ∨ p.at_=a)∧(B4 pl p).length ≤ pl.length + 1:=by
     unfold B4
     split
     · rename_i hm
       exact ⟨h,fun a=>⟨.inl,fun hh=>hh.elim id fun e=>e ▸ hm⟩,by omega⟩
     · rename_i hm
       refine ⟨List.nodup_append.2 ⟨h,by simp,fun a ha b hb=>?_⟩,fun a=>by simp [eq_comm],by simp⟩
       simp only [List.mem_singleton] at hb
       subst hb
       exact fun e=>hm (e ▸ ha)
   obtain ⟨k1,k2,k3⟩:=Q5 l (B4 pl p) h1.1
   refine ⟨k1,fun a=>?_,by have:=h1.2.2;simp only [List.foldl_cons,List.length_cons];omega⟩
   rw [List.foldl_cons,k2,h1.2.1]
   simp only [List.mem_cons,exists_eq_or_imp,or_assoc]
theorem Tr {l:List Span} (h:Plain l):Full l:=h.1
theorem zde {sets:List (List Span)} {w:List Int} {a:Nat} {x:Int} (hw:Win sets w) (ha:a < sets.length) (hx:memL (nth sets a) x):Win sets (w.set a x):=by
 refine ⟨by simp [hw.1],fun i hi=>?_⟩
 rw [Mx (by rw [hw.1];exact ha)]
 split
 · subst_vars;exact hx
 · exact hw.2 i hi
theorem Zq {l:List Part} {sets:List (List Span)} (hS:Cm l sets) (hl:l.length ≤ 4) (hne:∃ w,Win sets w):∀ (pl:List Int) (out:List Span),pl.Nodup→(∀ a ∈ pl,0 ≤ a∧a < sets.length)→Full out→pl.length ≤ 4 →
   (∀ v,memL out v→-1114111 ≤ v∧v ≤ 1114111 + (4 - (pl.length:Int)) * 264241152)→Full (pl.foldl (Bc l sets) out)∧∀ v,memL (pl.foldl (Bc l sets) out) v ↔ ∃ o w,memL out o∧Win sets w∧o + Mw l pl w=v
 | [],out,_,_,hf,_,_=>⟨hf,fun v=>by
   obtain ⟨w,hw⟩:=hne
   simp only [List.foldl_nil,Mw,List.map_nil,List.sum_nil,Int.add_zero]
   exact ⟨fun h=>⟨v,w,h,hw,rfl⟩,fun ⟨o,_,h,_,e⟩=>e ▸ h⟩⟩
 | a :: pl,out,hn,hp,hf,hlen,hb=>by
   obtain ⟨n1,n2⟩:=List.nodup_cons.1 hn
   have ha:=hp a (by simp)
   have hm:nth sets a.toNat ∈ sets:=Au (by omega)
   have hsy:=hS.syms _ hm
   have hbits:∀ p ∈ atL l a,Dg p=true:=fun p hp=>by
     have:=hS.parts p ((List.mem_filter.1 hp).1)
     simp only [Dj,Bool.and_eq_true] at this
     exact this.2
   have hla:(atL l a).length ≤ 4:=Nat.le_trans (List.length_filter_le _ _) hl
   obtain ⟨t1,t2⟩:=zi6 hla hbits hsy
   obtain ⟨p1,p2⟩:=zdc hf (Tr t1)
   have htot:∀ x,memL (nth sets a.toNat) x→0 ≤ totV (atL l a) x∧totV (atL l a) x ≤ 264241152:=fun x hx=>by
     have:=hsy.mem hx
     have:=Ia (x:=x) (by omega) hbits
     omega
   simp only [List.length_cons] at hlen hb
   have hv:∀ v,memL (Bc l sets out a) v ↔ ∃ o x,memL out o∧memL (nth sets a.toNat) x∧o + totV (atL l a) x=v:=fun v=>by
     rw [Bc,p2]
     constructor
     · rintro ⟨⟨o,y,h1,h2,h3⟩,_⟩
       obtain ⟨x,k1,k2⟩:=(t2 y).1 h2
       exact ⟨o,x,h1,k1,by rw [k2];exact h3⟩
     · rintro ⟨o,x,h1,h2,rfl⟩
       have:=hb o h1
       have:=htot x h2
       push_cast at *
       exact ⟨⟨o,_,h1,(t2 _).2 ⟨x,h2,rfl⟩,rfl⟩,by omega,by omega⟩
   obtain ⟨i1,i2⟩:=Zq hS hl hne pl (Bc l sets out a) n2 (fun b hb=>hp b (by simp [hb])) (Tr p1) (by omega) (fun v h=>by
     obtain ⟨o,x,h1,h2,rfl⟩:=(hv v).1 h
     have:=hb o h1
     have:=htot x h2
     push_cast at *
     omega)
   refine ⟨i1,fun v=>?_⟩
   rw [List.foldl_cons,i2]
   constructor
   · rintro ⟨u,w,h1,hw,rfl⟩
     obtain ⟨o,x,k1,k2,rfl⟩:=(hv u).1 h1
     refine ⟨o,w.set a.toNat x,k1,zde hw (by omega) k2,?_⟩
     have e1:Mw l pl (w.set a.toNat x)=Mw l pl w:=Hi fun b hb=>by
       have:=hp b (by simp [hb])
       rw [Mx (by rw [hw.1];omega),if_neg]
       intro e
       exact n1 ((show b=a by omega) ▸ hb)
     have e2:Mw l (a :: pl) (w.set a.toNat x)=totV (atL l a) x + Mw l pl (w.set a.toNat x):=by
       simp only [Mw,List.map_cons,List.sum_cons]
       rw [Mx (by rw [hw.1];omega),if_pos rfl]
     rw [e2,e1]
     omega
   · rintro ⟨o,w,h1,hw,rfl⟩
     have hx:=hw.2 a.toNat (by omega)
     refine ⟨o + totV (atL l a) (nth w a.toNat),w,(hv _).2 ⟨o,_,h1,hx,rfl⟩,hw,?_⟩
     simp only [Mw,List.map_cons,List.sum_cons]
     omega
theorem zi7 (x:Int):Full [⟨x,x⟩]:=fun s hs=>by simp only [List.mem_singleton] at hs;subst hs;simp
theorem z2f {x v:Int}:memL [⟨x,x⟩] v ↔ v=x:=by rw [Av];simp only [Bh,or_false];omega
theorem zdf {t:Term} {sets:List (List Span)} (hS:Cm t.parts sets) (hl:t.parts.length ≤ 4) (hs:B5 t.sum=true) (hne:∃ w,Win sets w):Full (A8 t sets)∧∀ v,memL (A8 t sets) v ↔ ∃ w,Win sets w∧t.sum + totW w t.parts=v:=by
 obtain ⟨k1,k2,k3⟩:=Q5 t.parts [] (by simp)
 have hsm:=E6 hs
 simp only [List.length_nil] at k3
 have hat:∀ a,a ∈ B7 t.parts→0 ≤ a∧a < sets.length:=fun a ha=>by
   obtain h|⟨p,hp,rfl⟩:=(k2 a).1 ha
   · cases h
   · exact Ai (hS.parts p hp)
 obtain ⟨h1,h2⟩:=Zq hS hl hne (B7 t.parts) [⟨t.sum,t.sum⟩] k1 hat (zi7 _) (by rw [B7];omega) (fun v hv=>by
   rw [z2f] at hv
   have:(B7 t.parts).length ≤ 4:=by rw [B7];omega
   omega)
 refine ⟨h1,fun v=>?_⟩
 rw [A8,h2]
 constructor
 · rintro ⟨o,w,e,hw,rfl⟩
   rw [z2f] at e
   exact ⟨w,hw,by rw [e,B7,I8 w _ _ k1 fun p hp=>(k2 _).2 (.inr ⟨p,hp,rfl⟩)]⟩
 · rintro ⟨w,hw,rfl⟩
   exact ⟨_,w,z2f.2 rfl,hw,by rw [B7,I8 w _ _ k1 fun p hp=>(k2 _).2 (.inr ⟨p,hp,rfl⟩)]⟩
theorem z2g {w:List Int} {n:Int}:∀ {l:List Part},(∀ p ∈ l,Dj p n=true)→(∀ p ∈ l,0 ≤ nth w p.at_.toNat∧nth w p.at_.toNat ≤ 1114111)→totP w l=totW w l∧0 ≤ totW w l∧totW w l ≤ l.length * 66060288
 | [],_,_=>by simp [totP,totW]
 | p :: l,h,hx=>by
   obtain ⟨i1,i2,i3⟩:=z2g (l:=l) (fun q hq=>h q (by simp [hq])) (fun q hq=>hx q (by simp [hq]))
   have hr:=h p (by simp)
   simp only [Dj,Bool.and_eq_true] at hr
   have hxp:=hx p (by simp)
   have hv:=Es hr.2 (x:=nth w p.at_.toNat) (by omega)
   have e1:val1 p (nth w p.at_.toNat)=valP p (nth w p.at_.toNat):=(z1g hr.2 (by omega)).2
   have e2:totW w (p :: l)=valP p (nth w p.at_.toNat) + totW w l:=by simp [totW]
   rw [totP,e1,e2,i1]
   refine ⟨rfl,by omega,?_⟩
   push_cast [List.length_cons]
   omega
theorem G0 {t:Term} {sets:List (List Span)} {w:List Int} (hS:Cm t.parts sets) (hn:B6 t=true) (hw:Win sets w) :
   Lm t w=if 0 ≤ t.sum + totW w t.parts∧t.sum + totW w t.parts ≤ 1114111 then some (t.base + valP t.outer (t.sum + totW w t.parts)) else none:=by
 simp only [B6,Bool.and_eq_true,decide_eq_true_eq] at hn
 obtain ⟨⟨⟨hb,hs⟩,ho⟩,_,hl⟩:=hn
 have hsm:=E6 hs
 have hbm:=E6 hb
 have hsym:∀ i,i < sets.length→0 ≤ nth w i∧nth w i ≤ 1114111:=fun i hi=>(hS.syms _ (Au hi)).mem (hw.2 i hi)
 obtain ⟨e1,b1,b2⟩:=z2g (w:=w) hS.parts (fun p hp=>by
   have:=Ai (hS.parts p hp)
   exact hsym _ (by omega))
 have hall:w.all symB=true:=by
   rw [List.all_eq_true]
   intro x hx
   obtain ⟨i,hi,rfl⟩:=List.getElem_of_mem hx
   have:=hsym i (by rw [← hw.1];exact hi)
   have e:nth w i=w[i]:=by simp [nth,hi]
   rw [e] at this
   simp [symB];omega
 have hright:Mh w t.parts=true:=by
   rw [Mh,List.all_eq_true]
   intro p hp
   rw [hw.1]
   exact hS.parts p hp
 have hsum:=zc3 w t.parts t.sum (zn2 (by omega))
 rw [if_pos hright,e1,zn2 (by omega)] at hsum
 unfold Lm
 rw [if_pos hall,hsum]
 simp only
 by_cases h:0 ≤ t.sum + totW w t.parts∧t.sum + totW w t.parts ≤ 1114111
 · have hvb:valB t.outer (t.sum + totW w t.parts)=true:=(z1g ho (by omega)).1
   have hv2:=Es ho (x:=t.sum + totW w t.parts) (by omega)
   rw [if_pos h,if_pos (by simp [hvb];omega),show IntKind.i64.wrap (t.base + valP t.outer (t.sum + totW w t.parts))=t.base + valP t.outer (t.sum + totW w t.parts) from IntWalk.i64_in _ (by omega)]
 · rw [if_neg h,if_neg]
   simp only [valB,ho,Bool.true_and,Bool.and_eq_true,decide_eq_true_eq]
   omega
theorem Ts:∀ {m:List Span},Plain m→m ≠ []→∃ a b,Zh m=some a∧z1s m=some b∧memL m a∧memL m b∧∀ v,memL m v→a ≤ v∧v ≤ b
 | [],_,h=>absurd rfl h
 | [s],h,_=>by
   have:=h.head
   refine ⟨s.lo,s.hi,rfl,rfl,Av.2 (.inl (by omega)),Av.2 (.inl (by omega)),fun v hv=>?_⟩
   rw [Av] at hv
   simpa [Bh] using hv
 | s :: r :: m,h,_=>by
   have hs:=h.head
   obtain ⟨a,b,e1,e2,h1,h2,h3⟩:=Ts h.tail (by simp)
   have hb:=h.after h2
   refine ⟨s.lo,b,rfl,?_,Av.2 (.inl (by omega)),Av.2 (.inr h2),fun v hv=>?_⟩
   · simpa [z1s] using e2
   · rcases Av.1 hv with h4|h4
     · omega
     · have:=h.after h4
       have:=h3 v h4
       omega
theorem Ke {l:List Span} {v:Int} (h:memL l v):l ≠ []:=by rintro rfl;exact Bh v h
theorem z8s {l:List Span} {u:Int} (hu:memL l u) (hb:∀ v,memL l v→-1073741824 ≤ v∧v ≤ 1073741824):B8 l=true ↔ ∀ v,memL l v→0 ≤ v∧v ≤ 1114111:=by
 obtain ⟨p1,p2⟩:=Aq l
 have hm:∀ v,memL (Ar l) v ↔ memL l v:=fun v=>by rw [p2];exact ⟨fun h=>h.1,fun h=>⟨h,hb v h⟩⟩
 obtain ⟨a,b,e1,e2,h1,h2,h3⟩:=Ts p1 (Ke ((hm u).2 hu))
 have hl:0 < (l.length:Int):=by
   have:=List.length_pos_iff.2 (Ke hu)
   omega
 simp only [B8,e1,e2,Option.getD_some,Bool.and_eq_true,decide_eq_true_eq]
 constructor
 · rintro ⟨_,k1,k2⟩ v hv
   have:=h3 v ((hm v).2 hv)
   omega
 · intro h
   exact ⟨hl,(h a ((hm a).1 h1)).1,(h b ((hm b).1 h2)).2⟩
theorem z5r {gs:List (List Span)}:Mr gs gs.length=true ↔ ∃ w,Win (gs.map symI) w:=by
 rw [Mr,List.take_length,List.all_eq_true]
 constructor
 · intro h
   refine ⟨(gs.map symI).map fun s=>(nth s 0).lo,by simp,fun i hi=>?_⟩
   have hi':i < gs.length:=by simpa using hi
   have h1:=h _ (Au hi')
   have e1:nth (gs.map symI) i=symI (nth gs i):=by simp [nth,hi']
   have e2:nth ((gs.map symI).map fun s=>(nth s 0).lo) i=(nth (symI (nth gs i)) 0).lo:=by simp [nth,hi']
   rw [e1,e2]
   simp only [decide_eq_true_eq] at h1
   have hm:=Au (l:=symI (nth gs i)) (i:=0) (by omega)
   have hs:=(Zf (nth gs i)).2 _ hm
   exact ⟨_,hm,by omega,by omega⟩
 · rintro ⟨w,hw⟩ g hg
   obtain ⟨i,hi,rfl⟩:=List.getElem_of_mem hg
   have h1:=hw.2 i (by simpa using hi)
   have e1:nth (gs.map symI) i=symI gs[i]:=by simp [nth,hi]
   rw [e1] at h1
   have:=List.length_pos_iff.2 (Ke h1)
   simp only [decide_eq_true_eq]
   omega
theorem z8t {t:Term} {gs:List (List Span)} (h4:gs.length ≤ 4) (hn:B6 t=true) (hp:prtB t gs.length=true) :
   ((Ef t gs).2=true ↔ ∀ w,Win (gs.map symI) w→(Lm t w).isSome=true)∧((Ef t gs).2=false→(Ef t gs).1=[]) ∧
   ((Ef t gs).2=true→Plain (Ef t gs).1∧∀ v,memL (Ef t gs).1 v ↔ ∃ w,Win (gs.map symI) w∧Lm t w=some v):=by
 have hS:=I4 hp h4
 have hnum:=hn
 simp only [B6,Bool.and_eq_true,decide_eq_true_eq] at hnum
 obtain ⟨⟨⟨hb,hs⟩,ho⟩,_,hl⟩:=hnum
 have hsm:=E6 hs
 have hbm:=E6 hb
 have hI:Ee t gs=if Mr gs gs.length=false then ([],true) else (A8 t (gs.map symI),B8 (A8 t (gs.map symI))):=by
   rw [Ee,if_neg (by simp [hn];omega),if_neg (by simp [hp])]
 have hsome:=@z5r gs
 cases hB:Mr gs gs.length
 · rw [hB] at hI hsome
   have hno:∀ w,¬ Win (gs.map symI) w:=fun w hw=>by have:=hsome.2 ⟨w,hw⟩;cases this
   have e:Ef t gs=([],true):=by rw [Ef,hI];simp
   rw [e]
   refine ⟨⟨fun _ w hw=>absurd hw (hno w),fun _=>rfl⟩,fun h=>(by cases h),fun _=>⟨⟨by simp,by simp⟩,fun v=>⟨fun h=>absurd h (Bh v),fun ⟨w,hw,_⟩=>absurd hw (hno w)⟩⟩⟩
 · rw [hB] at hI hsome
   obtain ⟨w0,hw0⟩:=hsome.1 rfl
   obtain ⟨v1,v2⟩:=zdf hS hl hs ⟨w0,hw0⟩
   have hbd:∀ w,Win (gs.map symI) w→0 ≤ totW w t.parts∧totW w t.parts ≤ 264241152:=fun w hw=>by
     obtain ⟨_,b1,b2⟩:=z2g (w:=w) hS.parts (fun p hp=>by
       have:=Ai (hS.parts p hp)
       exact (hS.syms _ (Au (by omega))).mem (hw.2 _ (by omega)))
     omega
   have hin:=z8s ((v2 _).2 ⟨w0,hw0,rfl⟩) (fun v hv=>by
     obtain ⟨w,hw,rfl⟩:=(v2 v).1 hv
     have:=hbd w hw
     omega)
   have hin2:B8 (A8 t (gs.map symI))=true ↔ ∀ w,Win (gs.map symI) w→(Lm t w).isSome=true:=by
     rw [hin]
     constructor
     · intro h w hw
       rw [G0 hS hn hw,if_pos (h _ ((v2 _).2 ⟨w,hw,rfl⟩))]
       rfl
     · intro h v hv
       obtain ⟨w,hw,rfl⟩:=(v2 v).1 hv
       have:=h w hw
       rw [G0 hS hn hw] at this
       split at this
       · assumption
       · cases this
   have hne:(A8 t (gs.map symI)).length ≠ 0:=fun h=>Ke ((v2 _).2 ⟨w0,hw0,rfl⟩) (List.eq_nil_of_length_eq_zero h)
   cases hi:B8 (A8 t (gs.map symI))
   · have e:Ef t gs=([],false):=by rw [Ef,hI];simp [hi]
     rw [e]
     rw [hi] at hin2
     exact ⟨hin2,fun _=>rfl,fun h=>by cases h⟩
   · have e:Ef t gs=(Dw (imgL t.outer (A8 t (gs.map symI))) t.base,true):=by
       rw [Ef,hI]
       simp [hi,hne]
     rw [e]
     rw [hi] at hin2
     refine ⟨hin2,fun h=>(by cases h),fun _=>⟨?_,fun v=>?_⟩⟩
     · unfold Dw
       split
       · exact ⟨by simp,by simp⟩
       · exact (Aq _).1
     · obtain ⟨_,i2⟩:=z5p (A8 t (gs.map symI)) ho
       rw [V9 (by omega),i2]
       constructor
       · rintro ⟨⟨⟨x,h1,h2,h3⟩,_⟩,_⟩
         obtain ⟨w,hw,rfl⟩:=(v2 x).1 h1
         have hv:=hin.1 hi _ h1
         exact ⟨w,hw,by rw [G0 hS hn hw,if_pos hv,h3];congr 1;omega⟩
       · rintro ⟨w,hw,h⟩
         have hm:=(v2 _).2 ⟨w,hw,rfl⟩
         have hv:=hin.1 hi _ hm
         rw [G0 hS hn hw,if_pos hv] at h
         have hvs:=Es ho (x:=t.sum + totW w t.parts) (by omega)
         simp only [Option.some.injEq] at h
         exact ⟨⟨⟨_,hm,by omega,by omega⟩,by omega⟩,by omega⟩
def Q6 (s x:Int):Bool:=decide ((s=1∧0 ≤ x∧x < 256) ∨ (s=2∧0 ≤ x∧x < 1114112∧(x < 55296 ∨ 57344 ≤ x)))
def fitW (t:Term) (o:Int) (w:List Int):Bool:=match Lm t w with
 | some v=>decide (0 ≤ v∧v ≤ 1114111) && Q6 o v
 | none=>false
theorem zdg {l:List Span} {v:Int} (h:-1073741824 ≤ v∧v ≤ 1073741824):hasI l v=true ↔ memL l v:=by
 rw [Fi];exact ⟨fun h=>h.2.2,fun hm=>⟨h.1,h.2,hm⟩⟩
theorem Ie {o v:Int}:memL (domL o) v ↔ Q6 o v=true:=by
 unfold domL
 simp only [Q6,decide_eq_true_eq]
 split
 · rw [Av];simp only [Bh,or_false];omega
 · split
   · rw [Av,Av];simp only [Bh,or_false];omega
   · simp only [Bh,false_iff];omega
theorem Om {o v:Int} (h:Q6 o v=true):0 ≤ v∧v ≤ 1114111:=by
 simp only [Q6,decide_eq_true_eq] at h;omega
theorem G1 {l d:List Span} (hl:∀ v,memL l v→-1073741824 ≤ v∧v ≤ 1073741824) (hp:Full l):Ej l d=[] ↔ ∀ v,memL l v→memL d v:=by
 obtain ⟨m1,m2⟩:=Te l d
 constructor
 · intro h v hv
   rw [h] at m2
   exact Classical.byContradiction fun hn=>Bh v ((m2 v).2 ⟨hv,hl v hv,hn⟩)
 · intro h
   cases hm:Ej l d with
   | nil=>rfl
   | cons s r =>
     rw [hm] at m1 m2
     obtain ⟨a,_,c⟩:=(m2 s.lo).1 (Av.2 (.inl ⟨Int.le_refl _,m1.1 s (by simp)⟩))
     exact absurd (h _ a) c
theorem Ep {t:Term} {i o n:Int} (h:Er t i o n=true):B6 t=true∧prtB t n=true:=by
 simp only [Er,C4,Bool.and_eq_true] at h
 obtain ⟨⟨⟨⟨_,hn⟩,hr⟩,_⟩,_⟩:=h
 refine ⟨hn,?_⟩
 rw [prtB,List.all_eq_true]
 intro p hp
 have:=List.all_eq_true.1 hr p hp
 simp only [Bool.and_eq_true] at this
 exact this.1
theorem z5s {t:Term} {gs:List (List Span)} (h4:gs.length ≤ 4) (hn:B6 t=true) (hp:prtB t gs.length=true) {w:List Int} {v:Int} (hw:Win (gs.map symI) w) (hv:Lm t w=some v):-1073741824 ≤ v∧v ≤ 1073741824:=by
 have hnum:=hn
 simp only [B6,Bool.and_eq_true,decide_eq_true_eq] at hnum
 have hbm:=E6 hnum.1.1.1
 rw [G0 (I4 hp h4) hn hw] at hv
 split at hv
 · have:=Es hnum.1.2 (x:=t.sum + totW w t.parts) (by omega)
   simp only [Option.some.injEq] at hv
   omega
 · cases hv
theorem zdh {t:Term} {i o:Int} {gs:List (List Span)} (h4:gs.length ≤ 4):Qu t i o gs=true ↔ Er t i o gs.length=true∧∀ w,Win (gs.map symI) w→fitW t o w=true:=by
 rw [Qu,Bool.and_eq_true,Bool.and_eq_true,decide_eq_true_eq]
 refine and_congr_right fun hr=>?_
 obtain ⟨hn,hp⟩:=Ep hr
 obtain ⟨s1,s2,s3⟩:=z8t h4 hn hp
 constructor
 · rintro ⟨hi,hm⟩ w hw
   obtain ⟨p1,p2⟩:=s3 hi
   rw [G1 (fun v hv=>by obtain ⟨w,h1,h2⟩:=(p2 v).1 hv;exact z5s h4 hn hp h1 h2) p1.1] at hm
   have hv:=zgy (s1.1 hi w hw)
   have:=Ie.1 (hm _ ((p2 _).2 ⟨w,hw,hv⟩))
   have hb:=Om this
   rw [fitW,hv]
   simp [hb,this]
 · intro h
   have hi:(Ef t gs).2=true:=s1.2 fun w hw=>by
     have:=h w hw
     rw [fitW] at this
     cases hv:Lm t w with
     | none=>rw [hv] at this;cases this
     | some v=>rfl
   obtain ⟨p1,p2⟩:=s3 hi
   refine ⟨hi,(G1 (fun v hv=>by obtain ⟨w,h1,h2⟩:=(p2 v).1 hv;exact z5s h4 hn hp h1 h2) p1.1).2 fun v hv=>?_⟩
   obtain ⟨w,h1,h2⟩:=(p2 v).1 hv
   have:=h w h1
   rw [fitW,h2] at this
   simp only [Bool.and_eq_true] at this
   exact Ie.2 this.2
theorem G3 {d:Desc} (h:Cp d=0):Ms d=true∧(∀ r ∈ d.rules,Ek d r=true)∧∀ f ∈ d.finals,C9 d f=true:=by
 have h0:(Dz d).1=0:=by
   unfold Cp at h
   split at h
   · assumption
   · omega
 unfold Dz at h0
 split at h0
 · simp at h0
 · rename_i hh
   refine ⟨by simpa using hh,?_⟩
   split at h0
   · simp at h0
   · rename_i hr
     split at h0
     · simp at h0
     · rename_i hf
       exact ⟨Gz hr,Gz hf⟩
theorem N1 {d:Desc} {out:List Term} {gs:List (List Span)} (h:De d out gs=true):out.length ≤ 64∧∀ t ∈ out,t.parts.length ≤ 4:=by
 simp only [De,Bool.and_eq_true,decide_eq_true_eq] at h
 refine ⟨by omega,fun t ht=>?_⟩
 have:=List.all_eq_true.1 h.2 t ht
 simp only [Qu,Bool.and_eq_true] at this
 have h2:=(Ep this.1).1
 simp only [B6,Bool.and_eq_true,decide_eq_true_eq] at h2
 exact h2.2.2
theorem zdi {α β:Type} [Inhabited α] (base:List β) (l:List α) (f:α→β):∃ g:Nat→List β,g 0=base∧(∀ k,k < l.length→g (k + 1)=g k ++ [f (nth l k)])∧g l.length=base ++ l.map f∧∀ k,(g k).length ≤ base.length + k :=
 ⟨fun k=>base ++ (l.take k).map f,by simp,fun k hk=>by simp only;rw [take_at hk];simp,by simp only;rw [List.take_length],fun k=>by simp;omega⟩
end Go.Proofs.YticodgjinajkpaaGreat
