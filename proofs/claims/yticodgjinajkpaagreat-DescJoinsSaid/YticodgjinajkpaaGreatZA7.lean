/-
  The inner values of all windows of guards, of terms of four parts.
  All inner values, the values, and whether a term fits: term.inner, term.Image, term.Fits.
  Contracts of layer 6: spans, guards, terms of rules; heads.
  desc.cycle: epsilon rules, as the code goes through them.
  What edges lead to: plain.
  trim.spread, as the code goes through it.
  What is wrong first with a description: desc.Where, desc.Check.
  Sizes of descriptions: Free, Width, Ahead, Longest.
  Descriptions that are made: Empty, Same, copies, Join.
  What a part's values, sums of sets, and a term's inner values are, number by number.
  The inner values of all windows, and a term's values.
  A term's values of all windows of guards, as they are told.
  The document's answer for layer 4: how many windows there are, a window by its number, all values.
  The document's answer for layer 4: all values of all windows, and whether a term fits.
  The document's values of all windows are the program's.
  Two descriptions joined.
-/
import Derived.Test.YticodgjinajkpaaGreatZA6
import Derived.Test.YticodgjinajkpaaGreatZA3
import Derived.Test.YticodgjinajkpaaGreatZA5
set_option linter.unusedSimpArgs false
set_option linter.unusedVariables false
namespace Go.Proofs.YticodgjinajkpaaGreat
open Abs
theorem zts (bs dr tk up sm:Int) (p0 p1 p2 p3:Part) (sets:List (List Span)) (hs:z1p sm=true) (hS:z2d [p0,p1,p2,p3] sets) (e1:p1.at_=p0.at_) (e2:p2.at_=p0.at_) (e3:p3.at_=p0.at_) :
   PC Tryz.prog 148 [z1q ⟨bs,dr,tk,up,sm,[p0,p1,p2,p3]⟩,z0b sets] (.tup [z03 (z0o ⟨bs,dr,tk,up,sm,[p0,p1,p2,p3]⟩ sets),.bool (z1u (z0o ⟨bs,dr,tk,up,sm,[p0,p1,p2,p3]⟩ sets))]):=by
 have hg:=z05 sets
 have b0:=z08 (hS.parts p0 (by simp))
 have b1:=z08 (hS.parts p1 (by simp))
 have b2:=z08 (hS.parts p2 (by simp))
 have b3:=z08 (hS.parts p3 (by simp))
 have A0:=z2j hs
 obtain ⟨T1,P1,A1⟩:=z09 (a:=p0.at_) hS A0 (by omega) (by simp)
 have l1:atL [p0,p1,p2,p3] p0.at_=[p0,p1,p2,p3]:=by simp [atL,e1,e2,e3]
 rw [l1] at T1 P1
 have hv:z0o ⟨bs,dr,tk,up,sm,[p0,p1,p2,p3]⟩ sets=z0u [p0,p1,p2,p3] sets ([⟨sm,sm⟩]) p0.at_:=by simp [z0o,z1t,z1r,e1,e2,e3]
 rw [hv]
 generalize ho1:z0u [p0,p1,p2,p3] sets ([⟨sm,sm⟩]) p0.at_=o1 at *
 generalize ht1:togL [p0,p1,p2,p3] (nth sets p0.at_.toNat)=t1 at *
 have hF:=z1c o1 (by have:=A1.2;omega)
 have hL:=z1k o1 (by have:=A1.2;omega)
 clear hS hv ho1 ht1 l1
 refine z0s z0n ?_
 unfold z0l
 (repeat' (first|(simp (disch:=omega) only [push_cast,↓zz,seval])|(with_reducible first|refine And.intro ?_ ?_|(first|refine z01 ?_ ?_|refine z00 ?_ ?_)<;>intro hc<;>(try simp only [push_cast] at hc))|omega|with_reducible intro _))
 refine z0q 6 ?_
 (repeat' (first|(simp (disch:=omega) only [push_cast,↓zz,seval,xx,List.mem_cons,List.not_mem_nil,or_false,false_or,not_or,not_false_eq_true,true_or,or_true,z1w,setM,e1,e2,e3])|(with_reducible first|refine And.intro ?_ ?_|(first|refine z01 ?_ ?_|refine z00 ?_ ?_)<;>intro hc<;>(try simp only [push_cast] at hc))|((with_reducible refine z0a ?_))|((with_reducible refine z2i [1,5] ?_))|omega|with_reducible intro _))
 refine z1b 6 (fun env=>[z0k 1 (env 6)]) [(1,z0b sets),(6,.map 0 1),(10,z03 [⟨sm,sm⟩]),(53,.lst 1 [.int .i64 p0.at_]),(54,.int .i64 1),(55,.int .i64 0)] [⟨0,1,true,[.int .i64 p0.at_,z0x [p0,p1,p2,p3]]⟩] ?_ ?_
 · (repeat' (first|(simp (disch:=omega) only [push_cast,↓zz,seval,e1,e2,e3])|(with_reducible first|refine And.intro ?_ ?_|(first|refine z01 ?_ ?_|refine z00 ?_ ?_)<;>intro hc<;>(try simp only [push_cast] at hc))|omega|with_reducible intro _))
   all_goals (simp only [z1v,e1,e2,e3];done)
 (repeat' (first|(simp (disch:=omega) only [push_cast,↓zz,seval,z1w,z1u,hg,e1,e2,e3])|(with_reducible first|refine And.intro ?_ ?_|(first|refine z01 ?_ ?_|refine z00 ?_ ?_)<;>intro hc<;>(try simp only [push_cast] at hc))|((with_reducible refine z0a ?_))|((with_reducible first|refine eQ T1 ?_|refine eQ P1 ?_))|((with_reducible first|refine eK hF ?_|refine eK hL ?_))|omega|with_reducible intro _))
 all_goals ((try simp only [*,decide_true,decide_false,Bool.true_and,Bool.false_and]);(repeat' (first|(simp (disch:=omega) only [push_cast,↓zz,seval,z1i])|omega|(with_reducible refine And.intro ?_ ?_))))
theorem ztt (bs dr tk up sm:Int) (p0 p1 p2 p3:Part) (sets:List (List Span)) (hs:z1p sm=true) (hS:z2d [p0,p1,p2,p3] sets) (e1:p1.at_=p0.at_) (e2:p2.at_=p0.at_) (n03:¬ p0.at_=p3.at_) :
   PC Tryz.prog 148 [z1q ⟨bs,dr,tk,up,sm,[p0,p1,p2,p3]⟩,z0b sets] (.tup [z03 (z0o ⟨bs,dr,tk,up,sm,[p0,p1,p2,p3]⟩ sets),.bool (z1u (z0o ⟨bs,dr,tk,up,sm,[p0,p1,p2,p3]⟩ sets))]):=by
 have hg:=z05 sets
 have b0:=z08 (hS.parts p0 (by simp))
 have b1:=z08 (hS.parts p1 (by simp))
 have b2:=z08 (hS.parts p2 (by simp))
 have b3:=z08 (hS.parts p3 (by simp))
 have A0:=z2j hs
 obtain ⟨T1,P1,A1⟩:=z09 (a:=p0.at_) hS A0 (by omega) (by simp)
 have l1:atL [p0,p1,p2,p3] p0.at_=[p0,p1,p2]:=by simp [atL,e1,e2,n03,Ne.symm (show p0.at_ ≠ p3.at_ from n03)]
 rw [l1] at T1 P1
 obtain ⟨T2,P2,A2⟩:=z09 (a:=p3.at_) hS A1 (by omega) (by simp)
 have l2:atL [p0,p1,p2,p3] p3.at_=[p3]:=by simp [atL,e1,e2,n03,Ne.symm (show p0.at_ ≠ p3.at_ from n03)]
 rw [l2] at T2 P2
 have hv:z0o ⟨bs,dr,tk,up,sm,[p0,p1,p2,p3]⟩ sets=z0u [p0,p1,p2,p3] sets (z0u [p0,p1,p2,p3] sets ([⟨sm,sm⟩]) p0.at_) p3.at_:=by simp [z0o,z1t,z1r,e1,e2,n03,Ne.symm (show p0.at_ ≠ p3.at_ from n03)]
 rw [hv]
 generalize ho1:z0u [p0,p1,p2,p3] sets ([⟨sm,sm⟩]) p0.at_=o1 at *
 generalize ht1:togL [p0,p1,p2] (nth sets p0.at_.toNat)=t1 at *
 generalize ho2:z0u [p0,p1,p2,p3] sets (o1) p3.at_=o2 at *
 generalize ht2:togL [p3] (nth sets p3.at_.toNat)=t2 at *
 have hF:=z1c o2 (by have:=A2.2;omega)
 have hL:=z1k o2 (by have:=A2.2;omega)
 clear hS hv ho1 ht1 l1 ho2 ht2 l2
 refine z0s z0n ?_
 unfold z0l
 (repeat' (first|(simp (disch:=omega) only [push_cast,↓zz,seval])|(with_reducible first|refine And.intro ?_ ?_|(first|refine z01 ?_ ?_|refine z00 ?_ ?_)<;>intro hc<;>(try simp only [push_cast] at hc))|omega|with_reducible intro _))
 refine z0q 6 ?_
 (repeat' (first|(simp (disch:=omega) only [push_cast,↓zz,seval,xx,List.mem_cons,List.not_mem_nil,or_false,false_or,not_or,not_false_eq_true,true_or,or_true,z1w,setM,e1,e2,n03])|(with_reducible first|refine And.intro ?_ ?_|(first|refine z01 ?_ ?_|refine z00 ?_ ?_)<;>intro hc<;>(try simp only [push_cast] at hc))|((with_reducible refine z0a ?_))|((with_reducible refine z2i [1,5] ?_))|omega|with_reducible intro _))
 refine z1b 6 (fun env=>[z0k 1 (env 6)]) [(1,z0b sets),(6,.map 0 1),(10,z03 [⟨sm,sm⟩]),(53,.lst 1 [.int .i64 p0.at_,.int .i64 p3.at_]),(54,.int .i64 2),(55,.int .i64 0)] [⟨0,1,true,[.int .i64 p0.at_,z0x [p0,p1,p2],.int .i64 p3.at_,z0x [p3]]⟩] ?_ ?_
 · (repeat' (first|(simp (disch:=omega) only [push_cast,↓zz,seval,e1,e2,n03])|(with_reducible first|refine And.intro ?_ ?_|(first|refine z01 ?_ ?_|refine z00 ?_ ?_)<;>intro hc<;>(try simp only [push_cast] at hc))|omega|with_reducible intro _))
   all_goals (simp only [z1v,e1,e2,n03];done)
 (repeat' (first|(simp (disch:=omega) only [push_cast,↓zz,seval,z1w,z1u,hg,e1,e2,n03])|(with_reducible first|refine And.intro ?_ ?_|(first|refine z01 ?_ ?_|refine z00 ?_ ?_)<;>intro hc<;>(try simp only [push_cast] at hc))|((with_reducible refine z0a ?_))|((with_reducible first|refine eQ T1 ?_|refine eQ P1 ?_))|((with_reducible first|refine eQ T2 ?_|refine eQ P2 ?_))|((with_reducible first|refine eK hF ?_|refine eK hL ?_))|omega|with_reducible intro _))
 all_goals ((try simp only [*,decide_true,decide_false,Bool.true_and,Bool.false_and]);(repeat' (first|(simp (disch:=omega) only [push_cast,↓zz,seval,z1i])|omega|(with_reducible refine And.intro ?_ ?_))))
theorem ztu (bs dr tk up sm:Int) (p0 p1 p2 p3:Part) (sets:List (List Span)) (hs:z1p sm=true) (hS:z2d [p0,p1,p2,p3] sets) (e1:p1.at_=p0.at_) (e3:p3.at_=p0.at_) (n02:¬ p0.at_=p2.at_) :
   PC Tryz.prog 148 [z1q ⟨bs,dr,tk,up,sm,[p0,p1,p2,p3]⟩,z0b sets] (.tup [z03 (z0o ⟨bs,dr,tk,up,sm,[p0,p1,p2,p3]⟩ sets),.bool (z1u (z0o ⟨bs,dr,tk,up,sm,[p0,p1,p2,p3]⟩ sets))]):=by
 have hg:=z05 sets
 have b0:=z08 (hS.parts p0 (by simp))
 have b1:=z08 (hS.parts p1 (by simp))
 have b2:=z08 (hS.parts p2 (by simp))
 have b3:=z08 (hS.parts p3 (by simp))
 have A0:=z2j hs
 obtain ⟨T1,P1,A1⟩:=z09 (a:=p0.at_) hS A0 (by omega) (by simp)
 have l1:atL [p0,p1,p2,p3] p0.at_=[p0,p1,p3]:=by simp [atL,e1,e3,n02,Ne.symm (show p0.at_ ≠ p2.at_ from n02)]
 rw [l1] at T1 P1
 obtain ⟨T2,P2,A2⟩:=z09 (a:=p2.at_) hS A1 (by omega) (by simp)
 have l2:atL [p0,p1,p2,p3] p2.at_=[p2]:=by simp [atL,e1,e3,n02,Ne.symm (show p0.at_ ≠ p2.at_ from n02)]
 rw [l2] at T2 P2
 have hv:z0o ⟨bs,dr,tk,up,sm,[p0,p1,p2,p3]⟩ sets=z0u [p0,p1,p2,p3] sets (z0u [p0,p1,p2,p3] sets ([⟨sm,sm⟩]) p0.at_) p2.at_:=by simp [z0o,z1t,z1r,e1,e3,n02,Ne.symm (show p0.at_ ≠ p2.at_ from n02)]
 rw [hv]
 generalize ho1:z0u [p0,p1,p2,p3] sets ([⟨sm,sm⟩]) p0.at_=o1 at *
 generalize ht1:togL [p0,p1,p3] (nth sets p0.at_.toNat)=t1 at *
 generalize ho2:z0u [p0,p1,p2,p3] sets (o1) p2.at_=o2 at *
 generalize ht2:togL [p2] (nth sets p2.at_.toNat)=t2 at *
 have hF:=z1c o2 (by have:=A2.2;omega)
 have hL:=z1k o2 (by have:=A2.2;omega)
 clear hS hv ho1 ht1 l1 ho2 ht2 l2
 refine z0s z0n ?_
 unfold z0l
 (repeat' (first|(simp (disch:=omega) only [push_cast,↓zz,seval])|(with_reducible first|refine And.intro ?_ ?_|(first|refine z01 ?_ ?_|refine z00 ?_ ?_)<;>intro hc<;>(try simp only [push_cast] at hc))|omega|with_reducible intro _))
 refine z0q 6 ?_
 (repeat' (first|(simp (disch:=omega) only [push_cast,↓zz,seval,xx,List.mem_cons,List.not_mem_nil,or_false,false_or,not_or,not_false_eq_true,true_or,or_true,z1w,setM,e1,e3,n02])|(with_reducible first|refine And.intro ?_ ?_|(first|refine z01 ?_ ?_|refine z00 ?_ ?_)<;>intro hc<;>(try simp only [push_cast] at hc))|((with_reducible refine z0a ?_))|((with_reducible refine z2i [1,5] ?_))|omega|with_reducible intro _))
 refine z1b 6 (fun env=>[z0k 1 (env 6)]) [(1,z0b sets),(6,.map 0 1),(10,z03 [⟨sm,sm⟩]),(53,.lst 1 [.int .i64 p0.at_,.int .i64 p2.at_]),(54,.int .i64 2),(55,.int .i64 0)] [⟨0,1,true,[.int .i64 p0.at_,z0x [p0,p1,p3],.int .i64 p2.at_,z0x [p2]]⟩] ?_ ?_
 · (repeat' (first|(simp (disch:=omega) only [push_cast,↓zz,seval,e1,e3,n02])|(with_reducible first|refine And.intro ?_ ?_|(first|refine z01 ?_ ?_|refine z00 ?_ ?_)<;>intro hc<;>(try simp only [push_cast] at hc))|omega|with_reducible intro _))
   all_goals (simp only [z1v,e1,e3,n02];done)
 (repeat' (first|(simp (disch:=omega) only [push_cast,↓zz,seval,z1w,z1u,hg,e1,e3,n02])|(with_reducible first|refine And.intro ?_ ?_|(first|refine z01 ?_ ?_|refine z00 ?_ ?_)<;>intro hc<;>(try simp only [push_cast] at hc))|((with_reducible refine z0a ?_))|((with_reducible first|refine eQ T1 ?_|refine eQ P1 ?_))|((with_reducible first|refine eQ T2 ?_|refine eQ P2 ?_))|((with_reducible first|refine eK hF ?_|refine eK hL ?_))|omega|with_reducible intro _))
 all_goals ((try simp only [*,decide_true,decide_false,Bool.true_and,Bool.false_and]);(repeat' (first|(simp (disch:=omega) only [push_cast,↓zz,seval,z1i])|omega|(with_reducible refine And.intro ?_ ?_))))
theorem ztv (bs dr tk up sm:Int) (p0 p1 p2 p3:Part) (sets:List (List Span)) (hs:z1p sm=true) (hS:z2d [p0,p1,p2,p3] sets) (e1:p1.at_=p0.at_) (e3:p3.at_=p2.at_) (n02:¬ p0.at_=p2.at_) :
   PC Tryz.prog 148 [z1q ⟨bs,dr,tk,up,sm,[p0,p1,p2,p3]⟩,z0b sets] (.tup [z03 (z0o ⟨bs,dr,tk,up,sm,[p0,p1,p2,p3]⟩ sets),.bool (z1u (z0o ⟨bs,dr,tk,up,sm,[p0,p1,p2,p3]⟩ sets))]):=by
 have hg:=z05 sets
 have b0:=z08 (hS.parts p0 (by simp))
 have b1:=z08 (hS.parts p1 (by simp))
 have b2:=z08 (hS.parts p2 (by simp))
 have b3:=z08 (hS.parts p3 (by simp))
 have A0:=z2j hs
 obtain ⟨T1,P1,A1⟩:=z09 (a:=p0.at_) hS A0 (by omega) (by simp)
 have l1:atL [p0,p1,p2,p3] p0.at_=[p0,p1]:=by simp [atL,e1,e3,n02,Ne.symm (show p0.at_ ≠ p2.at_ from n02)]
 rw [l1] at T1 P1
 obtain ⟨T2,P2,A2⟩:=z09 (a:=p2.at_) hS A1 (by omega) (by simp)
 have l2:atL [p0,p1,p2,p3] p2.at_=[p2,p3]:=by simp [atL,e1,e3,n02,Ne.symm (show p0.at_ ≠ p2.at_ from n02)]
 rw [l2] at T2 P2
 have hv:z0o ⟨bs,dr,tk,up,sm,[p0,p1,p2,p3]⟩ sets=z0u [p0,p1,p2,p3] sets (z0u [p0,p1,p2,p3] sets ([⟨sm,sm⟩]) p0.at_) p2.at_:=by simp [z0o,z1t,z1r,e1,e3,n02,Ne.symm (show p0.at_ ≠ p2.at_ from n02)]
 rw [hv]
 generalize ho1:z0u [p0,p1,p2,p3] sets ([⟨sm,sm⟩]) p0.at_=o1 at *
 generalize ht1:togL [p0,p1] (nth sets p0.at_.toNat)=t1 at *
 generalize ho2:z0u [p0,p1,p2,p3] sets (o1) p2.at_=o2 at *
 generalize ht2:togL [p2,p3] (nth sets p2.at_.toNat)=t2 at *
 have hF:=z1c o2 (by have:=A2.2;omega)
 have hL:=z1k o2 (by have:=A2.2;omega)
 clear hS hv ho1 ht1 l1 ho2 ht2 l2
 refine z0s z0n ?_
 unfold z0l
 (repeat' (first|(simp (disch:=omega) only [push_cast,↓zz,seval])|(with_reducible first|refine And.intro ?_ ?_|(first|refine z01 ?_ ?_|refine z00 ?_ ?_)<;>intro hc<;>(try simp only [push_cast] at hc))|omega|with_reducible intro _))
 refine z0q 6 ?_
 (repeat' (first|(simp (disch:=omega) only [push_cast,↓zz,seval,xx,List.mem_cons,List.not_mem_nil,or_false,false_or,not_or,not_false_eq_true,true_or,or_true,z1w,setM,e1,e3,n02])|(with_reducible first|refine And.intro ?_ ?_|(first|refine z01 ?_ ?_|refine z00 ?_ ?_)<;>intro hc<;>(try simp only [push_cast] at hc))|((with_reducible refine z0a ?_))|((with_reducible refine z2i [1,5,9] ?_))|omega|with_reducible intro _))
 refine z1b 6 (fun env=>[z0k 1 (env 6)]) [(1,z0b sets),(6,.map 0 1),(10,z03 [⟨sm,sm⟩]),(53,.lst 1 [.int .i64 p0.at_,.int .i64 p2.at_]),(54,.int .i64 2),(55,.int .i64 0)] [⟨0,1,true,[.int .i64 p0.at_,z0x [p0,p1],.int .i64 p2.at_,z0x [p2,p3]]⟩] ?_ ?_
 · (repeat' (first|(simp (disch:=omega) only [push_cast,↓zz,seval,e1,e3,n02])|(with_reducible first|refine And.intro ?_ ?_|(first|refine z01 ?_ ?_|refine z00 ?_ ?_)<;>intro hc<;>(try simp only [push_cast] at hc))|omega|with_reducible intro _))
   all_goals (simp only [z1v,e1,e3,n02];done)
 (repeat' (first|(simp (disch:=omega) only [push_cast,↓zz,seval,z1w,z1u,hg,e1,e3,n02])|(with_reducible first|refine And.intro ?_ ?_|(first|refine z01 ?_ ?_|refine z00 ?_ ?_)<;>intro hc<;>(try simp only [push_cast] at hc))|((with_reducible refine z0a ?_))|((with_reducible first|refine eQ T1 ?_|refine eQ P1 ?_))|((with_reducible first|refine eQ T2 ?_|refine eQ P2 ?_))|((with_reducible first|refine eK hF ?_|refine eK hL ?_))|omega|with_reducible intro _))
 all_goals ((try simp only [*,decide_true,decide_false,Bool.true_and,Bool.false_and]);(repeat' (first|(simp (disch:=omega) only [push_cast,↓zz,seval,z1i])|omega|(with_reducible refine And.intro ?_ ?_))))
theorem ztw (bs dr tk up sm:Int) (p0 p1 p2 p3:Part) (sets:List (List Span)) (hs:z1p sm=true) (hS:z2d [p0,p1,p2,p3] sets) (e1:p1.at_=p0.at_) (n02:¬ p0.at_=p2.at_) (n03:¬ p0.at_=p3.at_) (n23:¬ p2.at_=p3.at_) :
   PC Tryz.prog 148 [z1q ⟨bs,dr,tk,up,sm,[p0,p1,p2,p3]⟩,z0b sets] (.tup [z03 (z0o ⟨bs,dr,tk,up,sm,[p0,p1,p2,p3]⟩ sets),.bool (z1u (z0o ⟨bs,dr,tk,up,sm,[p0,p1,p2,p3]⟩ sets))]):=by
 have hg:=z05 sets
 have b0:=z08 (hS.parts p0 (by simp))
 have b1:=z08 (hS.parts p1 (by simp))
 have b2:=z08 (hS.parts p2 (by simp))
 have b3:=z08 (hS.parts p3 (by simp))
 have A0:=z2j hs
 obtain ⟨T1,P1,A1⟩:=z09 (a:=p0.at_) hS A0 (by omega) (by simp)
 have l1:atL [p0,p1,p2,p3] p0.at_=[p0,p1]:=by simp [atL,e1,n02,n03,n23,Ne.symm (show p0.at_ ≠ p2.at_ from n02),Ne.symm (show p0.at_ ≠ p3.at_ from n03),Ne.symm (show p2.at_ ≠ p3.at_ from n23)]
 rw [l1] at T1 P1
 obtain ⟨T2,P2,A2⟩:=z09 (a:=p2.at_) hS A1 (by omega) (by simp)
 have l2:atL [p0,p1,p2,p3] p2.at_=[p2]:=by simp [atL,e1,n02,n03,n23,Ne.symm (show p0.at_ ≠ p2.at_ from n02),Ne.symm (show p0.at_ ≠ p3.at_ from n03),Ne.symm (show p2.at_ ≠ p3.at_ from n23)]
 rw [l2] at T2 P2
 obtain ⟨T3,P3,A3⟩:=z09 (a:=p3.at_) hS A2 (by omega) (by simp)
 have l3:atL [p0,p1,p2,p3] p3.at_=[p3]:=by simp [atL,e1,n02,n03,n23,Ne.symm (show p0.at_ ≠ p2.at_ from n02),Ne.symm (show p0.at_ ≠ p3.at_ from n03),Ne.symm (show p2.at_ ≠ p3.at_ from n23)]
 rw [l3] at T3 P3
 have hv:z0o ⟨bs,dr,tk,up,sm,[p0,p1,p2,p3]⟩ sets=z0u [p0,p1,p2,p3] sets (z0u [p0,p1,p2,p3] sets (z0u [p0,p1,p2,p3] sets ([⟨sm,sm⟩]) p0.at_) p2.at_) p3.at_:=by simp [z0o,z1t,z1r,e1,n02,n03,n23,Ne.symm (show p0.at_ ≠ p2.at_ from n02),Ne.symm (show p0.at_ ≠ p3.at_ from n03),Ne.symm (show p2.at_ ≠ p3.at_ from n23)]
 rw [hv]
 generalize ho1:z0u [p0,p1,p2,p3] sets ([⟨sm,sm⟩]) p0.at_=o1 at *
 generalize ht1:togL [p0,p1] (nth sets p0.at_.toNat)=t1 at *
 generalize ho2:z0u [p0,p1,p2,p3] sets (o1) p2.at_=o2 at *
 generalize ht2:togL [p2] (nth sets p2.at_.toNat)=t2 at *
 generalize ho3:z0u [p0,p1,p2,p3] sets (o2) p3.at_=o3 at *
 generalize ht3:togL [p3] (nth sets p3.at_.toNat)=t3 at *
 have hF:=z1c o3 (by have:=A3.2;omega)
 have hL:=z1k o3 (by have:=A3.2;omega)
 clear hS hv ho1 ht1 l1 ho2 ht2 l2 ho3 ht3 l3
 refine z0s z0n ?_
 unfold z0l
 (repeat' (first|(simp (disch:=omega) only [push_cast,↓zz,seval])|(with_reducible first|refine And.intro ?_ ?_|(first|refine z01 ?_ ?_|refine z00 ?_ ?_)<;>intro hc<;>(try simp only [push_cast] at hc))|omega|with_reducible intro _))
 refine z0q 6 ?_
 (repeat' (first|(simp (disch:=omega) only [push_cast,↓zz,seval,xx,List.mem_cons,List.not_mem_nil,or_false,false_or,not_or,not_false_eq_true,true_or,or_true,z1w,setM,e1,n02,n03,n23])|(with_reducible first|refine And.intro ?_ ?_|(first|refine z01 ?_ ?_|refine z00 ?_ ?_)<;>intro hc<;>(try simp only [push_cast] at hc))|((with_reducible refine z0a ?_))|((with_reducible refine z2i [1,5] ?_))|omega|with_reducible intro _))
 refine z1b 6 (fun env=>[z0k 1 (env 6)]) [(1,z0b sets),(6,.map 0 1),(10,z03 [⟨sm,sm⟩]),(53,.lst 1 [.int .i64 p0.at_,.int .i64 p2.at_,.int .i64 p3.at_]),(54,.int .i64 3),(55,.int .i64 0)] [⟨0,1,true,[.int .i64 p0.at_,z0x [p0,p1],.int .i64 p2.at_,z0x [p2],.int .i64 p3.at_,z0x [p3]]⟩] ?_ ?_
 · (repeat' (first|(simp (disch:=omega) only [push_cast,↓zz,seval,e1,n02,n03,n23])|(with_reducible first|refine And.intro ?_ ?_|(first|refine z01 ?_ ?_|refine z00 ?_ ?_)<;>intro hc<;>(try simp only [push_cast] at hc))|omega|with_reducible intro _))
   all_goals (simp only [z1v,e1,n02,n03,n23];done)
 (repeat' (first|(simp (disch:=omega) only [push_cast,↓zz,seval,z1w,z1u,hg,e1,n02,n03,n23])|(with_reducible first|refine And.intro ?_ ?_|(first|refine z01 ?_ ?_|refine z00 ?_ ?_)<;>intro hc<;>(try simp only [push_cast] at hc))|((with_reducible refine z0a ?_))|((with_reducible first|refine eQ T1 ?_|refine eQ P1 ?_))|((with_reducible first|refine eQ T2 ?_|refine eQ P2 ?_))|((with_reducible first|refine eQ T3 ?_|refine eQ P3 ?_))|((with_reducible first|refine eK hF ?_|refine eK hL ?_))|omega|with_reducible intro _))
 all_goals ((try simp only [*,decide_true,decide_false,Bool.true_and,Bool.false_and]);(repeat' (first|(simp (disch:=omega) only [push_cast,↓zz,seval,z1i])|omega|(with_reducible refine And.intro ?_ ?_))))
theorem ztx (bs dr tk up sm:Int) (p0 p1 p2 p3:Part) (sets:List (List Span)) (hs:z1p sm=true) (hS:z2d [p0,p1,p2,p3] sets) (e2:p2.at_=p0.at_) (e3:p3.at_=p0.at_) (n01:¬ p0.at_=p1.at_) :
   PC Tryz.prog 148 [z1q ⟨bs,dr,tk,up,sm,[p0,p1,p2,p3]⟩,z0b sets] (.tup [z03 (z0o ⟨bs,dr,tk,up,sm,[p0,p1,p2,p3]⟩ sets),.bool (z1u (z0o ⟨bs,dr,tk,up,sm,[p0,p1,p2,p3]⟩ sets))]):=by
 have hg:=z05 sets
 have b0:=z08 (hS.parts p0 (by simp))
 have b1:=z08 (hS.parts p1 (by simp))
 have b2:=z08 (hS.parts p2 (by simp))
 have b3:=z08 (hS.parts p3 (by simp))
 have A0:=z2j hs
 obtain ⟨T1,P1,A1⟩:=z09 (a:=p0.at_) hS A0 (by omega) (by simp)
 have l1:atL [p0,p1,p2,p3] p0.at_=[p0,p2,p3]:=by simp [atL,e2,e3,n01,Ne.symm (show p0.at_ ≠ p1.at_ from n01)]
 rw [l1] at T1 P1
 obtain ⟨T2,P2,A2⟩:=z09 (a:=p1.at_) hS A1 (by omega) (by simp)
 have l2:atL [p0,p1,p2,p3] p1.at_=[p1]:=by simp [atL,e2,e3,n01,Ne.symm (show p0.at_ ≠ p1.at_ from n01)]
 rw [l2] at T2 P2
 have hv:z0o ⟨bs,dr,tk,up,sm,[p0,p1,p2,p3]⟩ sets=z0u [p0,p1,p2,p3] sets (z0u [p0,p1,p2,p3] sets ([⟨sm,sm⟩]) p0.at_) p1.at_:=by simp [z0o,z1t,z1r,e2,e3,n01,Ne.symm (show p0.at_ ≠ p1.at_ from n01)]
 rw [hv]
 generalize ho1:z0u [p0,p1,p2,p3] sets ([⟨sm,sm⟩]) p0.at_=o1 at *
 generalize ht1:togL [p0,p2,p3] (nth sets p0.at_.toNat)=t1 at *
 generalize ho2:z0u [p0,p1,p2,p3] sets (o1) p1.at_=o2 at *
 generalize ht2:togL [p1] (nth sets p1.at_.toNat)=t2 at *
 have hF:=z1c o2 (by have:=A2.2;omega)
 have hL:=z1k o2 (by have:=A2.2;omega)
 clear hS hv ho1 ht1 l1 ho2 ht2 l2
 refine z0s z0n ?_
 unfold z0l
 (repeat' (first|(simp (disch:=omega) only [push_cast,↓zz,seval])|(with_reducible first|refine And.intro ?_ ?_|(first|refine z01 ?_ ?_|refine z00 ?_ ?_)<;>intro hc<;>(try simp only [push_cast] at hc))|omega|with_reducible intro _))
 refine z0q 6 ?_
 (repeat' (first|(simp (disch:=omega) only [push_cast,↓zz,seval,xx,List.mem_cons,List.not_mem_nil,or_false,false_or,not_or,not_false_eq_true,true_or,or_true,z1w,setM,e2,e3,n01])|(with_reducible first|refine And.intro ?_ ?_|(first|refine z01 ?_ ?_|refine z00 ?_ ?_)<;>intro hc<;>(try simp only [push_cast] at hc))|((with_reducible refine z0a ?_))|((with_reducible refine z2i [1,5] ?_))|omega|with_reducible intro _))
 refine z1b 6 (fun env=>[z0k 1 (env 6)]) [(1,z0b sets),(6,.map 0 1),(10,z03 [⟨sm,sm⟩]),(53,.lst 1 [.int .i64 p0.at_,.int .i64 p1.at_]),(54,.int .i64 2),(55,.int .i64 0)] [⟨0,1,true,[.int .i64 p0.at_,z0x [p0,p2,p3],.int .i64 p1.at_,z0x [p1]]⟩] ?_ ?_
 · (repeat' (first|(simp (disch:=omega) only [push_cast,↓zz,seval,e2,e3,n01])|(with_reducible first|refine And.intro ?_ ?_|(first|refine z01 ?_ ?_|refine z00 ?_ ?_)<;>intro hc<;>(try simp only [push_cast] at hc))|omega|with_reducible intro _))
   all_goals (simp only [z1v,e2,e3,n01];done)
 (repeat' (first|(simp (disch:=omega) only [push_cast,↓zz,seval,z1w,z1u,hg,e2,e3,n01])|(with_reducible first|refine And.intro ?_ ?_|(first|refine z01 ?_ ?_|refine z00 ?_ ?_)<;>intro hc<;>(try simp only [push_cast] at hc))|((with_reducible refine z0a ?_))|((with_reducible first|refine eQ T1 ?_|refine eQ P1 ?_))|((with_reducible first|refine eQ T2 ?_|refine eQ P2 ?_))|((with_reducible first|refine eK hF ?_|refine eK hL ?_))|omega|with_reducible intro _))
 all_goals ((try simp only [*,decide_true,decide_false,Bool.true_and,Bool.false_and]);(repeat' (first|(simp (disch:=omega) only [push_cast,↓zz,seval,z1i])|omega|(with_reducible refine And.intro ?_ ?_))))
theorem zty (bs dr tk up sm:Int) (p0 p1 p2 p3:Part) (sets:List (List Span)) (hs:z1p sm=true) (hS:z2d [p0,p1,p2,p3] sets) (e2:p2.at_=p0.at_) (e3:p3.at_=p1.at_) (n01:¬ p0.at_=p1.at_) :
   PC Tryz.prog 148 [z1q ⟨bs,dr,tk,up,sm,[p0,p1,p2,p3]⟩,z0b sets] (.tup [z03 (z0o ⟨bs,dr,tk,up,sm,[p0,p1,p2,p3]⟩ sets),.bool (z1u (z0o ⟨bs,dr,tk,up,sm,[p0,p1,p2,p3]⟩ sets))]):=by
 have hg:=z05 sets
 have b0:=z08 (hS.parts p0 (by simp))
 have b1:=z08 (hS.parts p1 (by simp))
 have b2:=z08 (hS.parts p2 (by simp))
 have b3:=z08 (hS.parts p3 (by simp))
 have A0:=z2j hs
 obtain ⟨T1,P1,A1⟩:=z09 (a:=p0.at_) hS A0 (by omega) (by simp)
 have l1:atL [p0,p1,p2,p3] p0.at_=[p0,p2]:=by simp [atL,e2,e3,n01,Ne.symm (show p0.at_ ≠ p1.at_ from n01)]
 rw [l1] at T1 P1
 obtain ⟨T2,P2,A2⟩:=z09 (a:=p1.at_) hS A1 (by omega) (by simp)
 have l2:atL [p0,p1,p2,p3] p1.at_=[p1,p3]:=by simp [atL,e2,e3,n01,Ne.symm (show p0.at_ ≠ p1.at_ from n01)]
 rw [l2] at T2 P2
 have hv:z0o ⟨bs,dr,tk,up,sm,[p0,p1,p2,p3]⟩ sets=z0u [p0,p1,p2,p3] sets (z0u [p0,p1,p2,p3] sets ([⟨sm,sm⟩]) p0.at_) p1.at_:=by simp [z0o,z1t,z1r,e2,e3,n01,Ne.symm (show p0.at_ ≠ p1.at_ from n01)]
 rw [hv]
 generalize ho1:z0u [p0,p1,p2,p3] sets ([⟨sm,sm⟩]) p0.at_=o1 at *
 generalize ht1:togL [p0,p2] (nth sets p0.at_.toNat)=t1 at *
 generalize ho2:z0u [p0,p1,p2,p3] sets (o1) p1.at_=o2 at *
 generalize ht2:togL [p1,p3] (nth sets p1.at_.toNat)=t2 at *
 have hF:=z1c o2 (by have:=A2.2;omega)
 have hL:=z1k o2 (by have:=A2.2;omega)
 clear hS hv ho1 ht1 l1 ho2 ht2 l2
 refine z0s z0n ?_
 unfold z0l
 (repeat' (first|(simp (disch:=omega) only [push_cast,↓zz,seval])|(with_reducible first|refine And.intro ?_ ?_|(first|refine z01 ?_ ?_|refine z00 ?_ ?_)<;>intro hc<;>(try simp only [push_cast] at hc))|omega|with_reducible intro _))
 refine z0q 6 ?_
 (repeat' (first|(simp (disch:=omega) only [push_cast,↓zz,seval,xx,List.mem_cons,List.not_mem_nil,or_false,false_or,not_or,not_false_eq_true,true_or,or_true,z1w,setM,e2,e3,n01])|(with_reducible first|refine And.intro ?_ ?_|(first|refine z01 ?_ ?_|refine z00 ?_ ?_)<;>intro hc<;>(try simp only [push_cast] at hc))|((with_reducible refine z0a ?_))|((with_reducible refine z2i [1,5,8] ?_))|omega|with_reducible intro _))
 refine z1b 6 (fun env=>[z0k 1 (env 6)]) [(1,z0b sets),(6,.map 0 1),(10,z03 [⟨sm,sm⟩]),(53,.lst 1 [.int .i64 p0.at_,.int .i64 p1.at_]),(54,.int .i64 2),(55,.int .i64 0)] [⟨0,1,true,[.int .i64 p0.at_,z0x [p0,p2],.int .i64 p1.at_,z0x [p1,p3]]⟩] ?_ ?_
 · (repeat' (first|(simp (disch:=omega) only [push_cast,↓zz,seval,e2,e3,n01])|(with_reducible first|refine And.intro ?_ ?_|(first|refine z01 ?_ ?_|refine z00 ?_ ?_)<;>intro hc<;>(try simp only [push_cast] at hc))|omega|with_reducible intro _))
   all_goals (simp only [z1v,e2,e3,n01];done)
 (repeat' (first|(simp (disch:=omega) only [push_cast,↓zz,seval,z1w,z1u,hg,e2,e3,n01])|(with_reducible first|refine And.intro ?_ ?_|(first|refine z01 ?_ ?_|refine z00 ?_ ?_)<;>intro hc<;>(try simp only [push_cast] at hc))|((with_reducible refine z0a ?_))|((with_reducible first|refine eQ T1 ?_|refine eQ P1 ?_))|((with_reducible first|refine eQ T2 ?_|refine eQ P2 ?_))|((with_reducible first|refine eK hF ?_|refine eK hL ?_))|omega|with_reducible intro _))
 all_goals ((try simp only [*,decide_true,decide_false,Bool.true_and,Bool.false_and]);(repeat' (first|(simp (disch:=omega) only [push_cast,↓zz,seval,z1i])|omega|(with_reducible refine And.intro ?_ ?_))))
theorem ztz (bs dr tk up sm:Int) (p0 p1 p2 p3:Part) (sets:List (List Span)) (hs:z1p sm=true) (hS:z2d [p0,p1,p2,p3] sets) (e2:p2.at_=p0.at_) (n01:¬ p0.at_=p1.at_) (n03:¬ p0.at_=p3.at_) (n13:¬ p1.at_=p3.at_) :
   PC Tryz.prog 148 [z1q ⟨bs,dr,tk,up,sm,[p0,p1,p2,p3]⟩,z0b sets] (.tup [z03 (z0o ⟨bs,dr,tk,up,sm,[p0,p1,p2,p3]⟩ sets),.bool (z1u (z0o ⟨bs,dr,tk,up,sm,[p0,p1,p2,p3]⟩ sets))]):=by
 have hg:=z05 sets
 have b0:=z08 (hS.parts p0 (by simp))
 have b1:=z08 (hS.parts p1 (by simp))
 have b2:=z08 (hS.parts p2 (by simp))
 have b3:=z08 (hS.parts p3 (by simp))
 have A0:=z2j hs
 obtain ⟨T1,P1,A1⟩:=z09 (a:=p0.at_) hS A0 (by omega) (by simp)
 have l1:atL [p0,p1,p2,p3] p0.at_=[p0,p2]:=by simp [atL,e2,n01,n03,n13,Ne.symm (show p0.at_ ≠ p1.at_ from n01),Ne.symm (show p0.at_ ≠ p3.at_ from n03),Ne.symm (show p1.at_ ≠ p3.at_ from n13)]
 rw [l1] at T1 P1
 obtain ⟨T2,P2,A2⟩:=z09 (a:=p1.at_) hS A1 (by omega) (by simp)
 have l2:atL [p0,p1,p2,p3] p1.at_=[p1]:=by simp [atL,e2,n01,n03,n13,Ne.symm (show p0.at_ ≠ p1.at_ from n01),Ne.symm (show p0.at_ ≠ p3.at_ from n03),Ne.symm (show p1.at_ ≠ p3.at_ from n13)]
 rw [l2] at T2 P2
 obtain ⟨T3,P3,A3⟩:=z09 (a:=p3.at_) hS A2 (by omega) (by simp)
 have l3:atL [p0,p1,p2,p3] p3.at_=[p3]:=by simp [atL,e2,n01,n03,n13,Ne.symm (show p0.at_ ≠ p1.at_ from n01),Ne.symm (show p0.at_ ≠ p3.at_ from n03),Ne.symm (show p1.at_ ≠ p3.at_ from n13)]
 rw [l3] at T3 P3
 have hv:z0o ⟨bs,dr,tk,up,sm,[p0,p1,p2,p3]⟩ sets=z0u [p0,p1,p2,p3] sets (z0u [p0,p1,p2,p3] sets (z0u [p0,p1,p2,p3] sets ([⟨sm,sm⟩]) p0.at_) p1.at_) p3.at_:=by simp [z0o,z1t,z1r,e2,n01,n03,n13,Ne.symm (show p0.at_ ≠ p1.at_ from n01),Ne.symm (show p0.at_ ≠ p3.at_ from n03),Ne.symm (show p1.at_ ≠ p3.at_ from n13)]
 rw [hv]
 generalize ho1:z0u [p0,p1,p2,p3] sets ([⟨sm,sm⟩]) p0.at_=o1 at *
 generalize ht1:togL [p0,p2] (nth sets p0.at_.toNat)=t1 at *
 generalize ho2:z0u [p0,p1,p2,p3] sets (o1) p1.at_=o2 at *
 generalize ht2:togL [p1] (nth sets p1.at_.toNat)=t2 at *
 generalize ho3:z0u [p0,p1,p2,p3] sets (o2) p3.at_=o3 at *
 generalize ht3:togL [p3] (nth sets p3.at_.toNat)=t3 at *
 have hF:=z1c o3 (by have:=A3.2;omega)
 have hL:=z1k o3 (by have:=A3.2;omega)
 clear hS hv ho1 ht1 l1 ho2 ht2 l2 ho3 ht3 l3
 refine z0s z0n ?_
 unfold z0l
 (repeat' (first|(simp (disch:=omega) only [push_cast,↓zz,seval])|(with_reducible first|refine And.intro ?_ ?_|(first|refine z01 ?_ ?_|refine z00 ?_ ?_)<;>intro hc<;>(try simp only [push_cast] at hc))|omega|with_reducible intro _))
 refine z0q 6 ?_
 (repeat' (first|(simp (disch:=omega) only [push_cast,↓zz,seval,xx,List.mem_cons,List.not_mem_nil,or_false,false_or,not_or,not_false_eq_true,true_or,or_true,z1w,setM,e2,n01,n03,n13])|(with_reducible first|refine And.intro ?_ ?_|(first|refine z01 ?_ ?_|refine z00 ?_ ?_)<;>intro hc<;>(try simp only [push_cast] at hc))|((with_reducible refine z0a ?_))|((with_reducible refine z2i [1,5] ?_))|omega|with_reducible intro _))
 refine z1b 6 (fun env=>[z0k 1 (env 6)]) [(1,z0b sets),(6,.map 0 1),(10,z03 [⟨sm,sm⟩]),(53,.lst 1 [.int .i64 p0.at_,.int .i64 p1.at_,.int .i64 p3.at_]),(54,.int .i64 3),(55,.int .i64 0)] [⟨0,1,true,[.int .i64 p0.at_,z0x [p0,p2],.int .i64 p1.at_,z0x [p1],.int .i64 p3.at_,z0x [p3]]⟩] ?_ ?_
 · (repeat' (first|(simp (disch:=omega) only [push_cast,↓zz,seval,e2,n01,n03,n13])|(with_reducible first|refine And.intro ?_ ?_|(first|refine z01 ?_ ?_|refine z00 ?_ ?_)<;>intro hc<;>(try simp only [push_cast] at hc))|omega|with_reducible intro _))
   all_goals (simp only [z1v,e2,n01,n03,n13];done)
 (repeat' (first|(simp (disch:=omega) only [push_cast,↓zz,seval,z1w,z1u,hg,e2,n01,n03,n13])|(with_reducible first|refine And.intro ?_ ?_|(first|refine z01 ?_ ?_|refine z00 ?_ ?_)<;>intro hc<;>(try simp only [push_cast] at hc))|((with_reducible refine z0a ?_))|((with_reducible first|refine eQ T1 ?_|refine eQ P1 ?_))|((with_reducible first|refine eQ T2 ?_|refine eQ P2 ?_))|((with_reducible first|refine eQ T3 ?_|refine eQ P3 ?_))|((with_reducible first|refine eK hF ?_|refine eK hL ?_))|omega|with_reducible intro _))
 all_goals ((try simp only [*,decide_true,decide_false,Bool.true_and,Bool.false_and]);(repeat' (first|(simp (disch:=omega) only [push_cast,↓zz,seval,z1i])|omega|(with_reducible refine And.intro ?_ ?_))))
theorem zu0 (bs dr tk up sm:Int) (p0 p1 p2 p3:Part) (sets:List (List Span)) (hs:z1p sm=true) (hS:z2d [p0,p1,p2,p3] sets) (e2:p2.at_=p1.at_) (e3:p3.at_=p0.at_) (n01:¬ p0.at_=p1.at_) :
   PC Tryz.prog 148 [z1q ⟨bs,dr,tk,up,sm,[p0,p1,p2,p3]⟩,z0b sets] (.tup [z03 (z0o ⟨bs,dr,tk,up,sm,[p0,p1,p2,p3]⟩ sets),.bool (z1u (z0o ⟨bs,dr,tk,up,sm,[p0,p1,p2,p3]⟩ sets))]):=by
 have hg:=z05 sets
 have b0:=z08 (hS.parts p0 (by simp))
 have b1:=z08 (hS.parts p1 (by simp))
 have b2:=z08 (hS.parts p2 (by simp))
 have b3:=z08 (hS.parts p3 (by simp))
 have A0:=z2j hs
 obtain ⟨T1,P1,A1⟩:=z09 (a:=p0.at_) hS A0 (by omega) (by simp)
 have l1:atL [p0,p1,p2,p3] p0.at_=[p0,p3]:=by simp [atL,e2,e3,n01,Ne.symm (show p0.at_ ≠ p1.at_ from n01)]
 rw [l1] at T1 P1
 obtain ⟨T2,P2,A2⟩:=z09 (a:=p1.at_) hS A1 (by omega) (by simp)
 have l2:atL [p0,p1,p2,p3] p1.at_=[p1,p2]:=by simp [atL,e2,e3,n01,Ne.symm (show p0.at_ ≠ p1.at_ from n01)]
 rw [l2] at T2 P2
 have hv:z0o ⟨bs,dr,tk,up,sm,[p0,p1,p2,p3]⟩ sets=z0u [p0,p1,p2,p3] sets (z0u [p0,p1,p2,p3] sets ([⟨sm,sm⟩]) p0.at_) p1.at_:=by simp [z0o,z1t,z1r,e2,e3,n01,Ne.symm (show p0.at_ ≠ p1.at_ from n01)]
 rw [hv]
 generalize ho1:z0u [p0,p1,p2,p3] sets ([⟨sm,sm⟩]) p0.at_=o1 at *
 generalize ht1:togL [p0,p3] (nth sets p0.at_.toNat)=t1 at *
 generalize ho2:z0u [p0,p1,p2,p3] sets (o1) p1.at_=o2 at *
 generalize ht2:togL [p1,p2] (nth sets p1.at_.toNat)=t2 at *
 have hF:=z1c o2 (by have:=A2.2;omega)
 have hL:=z1k o2 (by have:=A2.2;omega)
 clear hS hv ho1 ht1 l1 ho2 ht2 l2
 refine z0s z0n ?_
 unfold z0l
 (repeat' (first|(simp (disch:=omega) only [push_cast,↓zz,seval])|(with_reducible first|refine And.intro ?_ ?_|(first|refine z01 ?_ ?_|refine z00 ?_ ?_)<;>intro hc<;>(try simp only [push_cast] at hc))|omega|with_reducible intro _))
 refine z0q 6 ?_
 (repeat' (first|(simp (disch:=omega) only [push_cast,↓zz,seval,xx,List.mem_cons,List.not_mem_nil,or_false,false_or,not_or,not_false_eq_true,true_or,or_true,z1w,setM,e2,e3,n01])|(with_reducible first|refine And.intro ?_ ?_|(first|refine z01 ?_ ?_|refine z00 ?_ ?_)<;>intro hc<;>(try simp only [push_cast] at hc))|((with_reducible refine z0a ?_))|((with_reducible refine z2i [1,5,8] ?_))|omega|with_reducible intro _))
 refine z1b 6 (fun env=>[z0k 1 (env 6)]) [(1,z0b sets),(6,.map 0 1),(10,z03 [⟨sm,sm⟩]),(53,.lst 1 [.int .i64 p0.at_,.int .i64 p1.at_]),(54,.int .i64 2),(55,.int .i64 0)] [⟨0,1,true,[.int .i64 p0.at_,z0x [p0,p3],.int .i64 p1.at_,z0x [p1,p2]]⟩] ?_ ?_
 · (repeat' (first|(simp (disch:=omega) only [push_cast,↓zz,seval,e2,e3,n01])|(with_reducible first|refine And.intro ?_ ?_|(first|refine z01 ?_ ?_|refine z00 ?_ ?_)<;>intro hc<;>(try simp only [push_cast] at hc))|omega|with_reducible intro _))
   all_goals (simp only [z1v,e2,e3,n01];done)
 (repeat' (first|(simp (disch:=omega) only [push_cast,↓zz,seval,z1w,z1u,hg,e2,e3,n01])|(with_reducible first|refine And.intro ?_ ?_|(first|refine z01 ?_ ?_|refine z00 ?_ ?_)<;>intro hc<;>(try simp only [push_cast] at hc))|((with_reducible refine z0a ?_))|((with_reducible first|refine eQ T1 ?_|refine eQ P1 ?_))|((with_reducible first|refine eQ T2 ?_|refine eQ P2 ?_))|((with_reducible first|refine eK hF ?_|refine eK hL ?_))|omega|with_reducible intro _))
 all_goals ((try simp only [*,decide_true,decide_false,Bool.true_and,Bool.false_and]);(repeat' (first|(simp (disch:=omega) only [push_cast,↓zz,seval,z1i])|omega|(with_reducible refine And.intro ?_ ?_))))
theorem zu1 (bs dr tk up sm:Int) (p0 p1 p2 p3:Part) (sets:List (List Span)) (hs:z1p sm=true) (hS:z2d [p0,p1,p2,p3] sets) (e2:p2.at_=p1.at_) (e3:p3.at_=p1.at_) (n01:¬ p0.at_=p1.at_) :
   PC Tryz.prog 148 [z1q ⟨bs,dr,tk,up,sm,[p0,p1,p2,p3]⟩,z0b sets] (.tup [z03 (z0o ⟨bs,dr,tk,up,sm,[p0,p1,p2,p3]⟩ sets),.bool (z1u (z0o ⟨bs,dr,tk,up,sm,[p0,p1,p2,p3]⟩ sets))]):=by
 have hg:=z05 sets
 have b0:=z08 (hS.parts p0 (by simp))
 have b1:=z08 (hS.parts p1 (by simp))
 have b2:=z08 (hS.parts p2 (by simp))
 have b3:=z08 (hS.parts p3 (by simp))
 have A0:=z2j hs
 obtain ⟨T1,P1,A1⟩:=z09 (a:=p0.at_) hS A0 (by omega) (by simp)
 have l1:atL [p0,p1,p2,p3] p0.at_=[p0]:=by simp [atL,e2,e3,n01,Ne.symm (show p0.at_ ≠ p1.at_ from n01)]
 rw [l1] at T1 P1
 obtain ⟨T2,P2,A2⟩:=z09 (a:=p1.at_) hS A1 (by omega) (by simp)
 have l2:atL [p0,p1,p2,p3] p1.at_=[p1,p2,p3]:=by simp [atL,e2,e3,n01,Ne.symm (show p0.at_ ≠ p1.at_ from n01)]
 rw [l2] at T2 P2
 have hv:z0o ⟨bs,dr,tk,up,sm,[p0,p1,p2,p3]⟩ sets=z0u [p0,p1,p2,p3] sets (z0u [p0,p1,p2,p3] sets ([⟨sm,sm⟩]) p0.at_) p1.at_:=by simp [z0o,z1t,z1r,e2,e3,n01,Ne.symm (show p0.at_ ≠ p1.at_ from n01)]
 rw [hv]
 generalize ho1:z0u [p0,p1,p2,p3] sets ([⟨sm,sm⟩]) p0.at_=o1 at *
 generalize ht1:togL [p0] (nth sets p0.at_.toNat)=t1 at *
 generalize ho2:z0u [p0,p1,p2,p3] sets (o1) p1.at_=o2 at *
 generalize ht2:togL [p1,p2,p3] (nth sets p1.at_.toNat)=t2 at *
 have hF:=z1c o2 (by have:=A2.2;omega)
 have hL:=z1k o2 (by have:=A2.2;omega)
 clear hS hv ho1 ht1 l1 ho2 ht2 l2
 refine z0s z0n ?_
 unfold z0l
 (repeat' (first|(simp (disch:=omega) only [push_cast,↓zz,seval])|(with_reducible first|refine And.intro ?_ ?_|(first|refine z01 ?_ ?_|refine z00 ?_ ?_)<;>intro hc<;>(try simp only [push_cast] at hc))|omega|with_reducible intro _))
 refine z0q 6 ?_
 (repeat' (first|(simp (disch:=omega) only [push_cast,↓zz,seval,xx,List.mem_cons,List.not_mem_nil,or_false,false_or,not_or,not_false_eq_true,true_or,or_true,z1w,setM,e2,e3,n01])|(with_reducible first|refine And.intro ?_ ?_|(first|refine z01 ?_ ?_|refine z00 ?_ ?_)<;>intro hc<;>(try simp only [push_cast] at hc))|((with_reducible refine z0a ?_))|((with_reducible refine z2i [1,8] ?_))|omega|with_reducible intro _))
 refine z1b 6 (fun env=>[z0k 1 (env 6)]) [(1,z0b sets),(6,.map 0 1),(10,z03 [⟨sm,sm⟩]),(53,.lst 1 [.int .i64 p0.at_,.int .i64 p1.at_]),(54,.int .i64 2),(55,.int .i64 0)] [⟨0,1,true,[.int .i64 p0.at_,z0x [p0],.int .i64 p1.at_,z0x [p1,p2,p3]]⟩] ?_ ?_
 · (repeat' (first|(simp (disch:=omega) only [push_cast,↓zz,seval,e2,e3,n01])|(with_reducible first|refine And.intro ?_ ?_|(first|refine z01 ?_ ?_|refine z00 ?_ ?_)<;>intro hc<;>(try simp only [push_cast] at hc))|omega|with_reducible intro _))
   all_goals (simp only [z1v,e2,e3,n01];done)
 (repeat' (first|(simp (disch:=omega) only [push_cast,↓zz,seval,z1w,z1u,hg,e2,e3,n01])|(with_reducible first|refine And.intro ?_ ?_|(first|refine z01 ?_ ?_|refine z00 ?_ ?_)<;>intro hc<;>(try simp only [push_cast] at hc))|((with_reducible refine z0a ?_))|((with_reducible first|refine eQ T1 ?_|refine eQ P1 ?_))|((with_reducible first|refine eQ T2 ?_|refine eQ P2 ?_))|((with_reducible first|refine eK hF ?_|refine eK hL ?_))|omega|with_reducible intro _))
 all_goals ((try simp only [*,decide_true,decide_false,Bool.true_and,Bool.false_and]);(repeat' (first|(simp (disch:=omega) only [push_cast,↓zz,seval,z1i])|omega|(with_reducible refine And.intro ?_ ?_))))
theorem zon (bs dr tk up sm:Int) (p0 p1 p2 p3:Part) (sets:List (List Span)) (hs:z1p sm=true) (hS:z2d [p0,p1,p2,p3] sets) (e2:p2.at_=p1.at_) (n01:¬ p0.at_=p1.at_) (n03:¬ p0.at_=p3.at_) (n13:¬ p1.at_=p3.at_) :
   PC Tryz.prog 148 [z1q ⟨bs,dr,tk,up,sm,[p0,p1,p2,p3]⟩,z0b sets] (.tup [z03 (z0o ⟨bs,dr,tk,up,sm,[p0,p1,p2,p3]⟩ sets),.bool (z1u (z0o ⟨bs,dr,tk,up,sm,[p0,p1,p2,p3]⟩ sets))]):=by
 have hg:=z05 sets
 have b0:=z08 (hS.parts p0 (by simp))
 have b1:=z08 (hS.parts p1 (by simp))
 have b2:=z08 (hS.parts p2 (by simp))
 have b3:=z08 (hS.parts p3 (by simp))
 have A0:=z2j hs
 obtain ⟨T1,P1,A1⟩:=z09 (a:=p0.at_) hS A0 (by omega) (by simp)
 have l1:atL [p0,p1,p2,p3] p0.at_=[p0]:=by simp [atL,e2,n01,n03,n13,Ne.symm (show p0.at_ ≠ p1.at_ from n01),Ne.symm (show p0.at_ ≠ p3.at_ from n03),Ne.symm (show p1.at_ ≠ p3.at_ from n13)]
 rw [l1] at T1 P1
 obtain ⟨T2,P2,A2⟩:=z09 (a:=p1.at_) hS A1 (by omega) (by simp)
 have l2:atL [p0,p1,p2,p3] p1.at_=[p1,p2]:=by simp [atL,e2,n01,n03,n13,Ne.symm (show p0.at_ ≠ p1.at_ from n01),Ne.symm (show p0.at_ ≠ p3.at_ from n03),Ne.symm (show p1.at_ ≠ p3.at_ from n13)]
 rw [l2] at T2 P2
 obtain ⟨T3,P3,A3⟩:=z09 (a:=p3.at_) hS A2 (by omega) (by simp)
 have l3:atL [p0,p1,p2,p3] p3.at_=[p3]:=by simp [atL,e2,n01,n03,n13,Ne.symm (show p0.at_ ≠ p1.at_ from n01),Ne.symm (show p0.at_ ≠ p3.at_ from n03),Ne.symm (show p1.at_ ≠ p3.at_ from n13)]
 rw [l3] at T3 P3
 have hv:z0o ⟨bs,dr,tk,up,sm,[p0,p1,p2,p3]⟩ sets=z0u [p0,p1,p2,p3] sets (z0u [p0,p1,p2,p3] sets (z0u [p0,p1,p2,p3] sets ([⟨sm,sm⟩]) p0.at_) p1.at_) p3.at_:=by simp [z0o,z1t,z1r,e2,n01,n03,n13,Ne.symm (show p0.at_ ≠ p1.at_ from n01),Ne.symm (show p0.at_ ≠ p3.at_ from n03),Ne.symm (show p1.at_ ≠ p3.at_ from n13)]
 rw [hv]
 generalize ho1:z0u [p0,p1,p2,p3] sets ([⟨sm,sm⟩]) p0.at_=o1 at *
 generalize ht1:togL [p0] (nth sets p0.at_.toNat)=t1 at *
 generalize ho2:z0u [p0,p1,p2,p3] sets (o1) p1.at_=o2 at *
 generalize ht2:togL [p1,p2] (nth sets p1.at_.toNat)=t2 at *
 generalize ho3:z0u [p0,p1,p2,p3] sets (o2) p3.at_=o3 at *
 generalize ht3:togL [p3] (nth sets p3.at_.toNat)=t3 at *
 have hF:=z1c o3 (by have:=A3.2;omega)
 have hL:=z1k o3 (by have:=A3.2;omega)
 clear hS hv ho1 ht1 l1 ho2 ht2 l2 ho3 ht3 l3
 refine z0s z0n ?_
 unfold z0l
 (repeat' (first|(simp (disch:=omega) only [push_cast,↓zz,seval])|(with_reducible first|refine And.intro ?_ ?_|(first|refine z01 ?_ ?_|refine z00 ?_ ?_)<;>intro hc<;>(try simp only [push_cast] at hc))|omega|with_reducible intro _))
 refine z0q 6 ?_
 (repeat' (first|(simp (disch:=omega) only [push_cast,↓zz,seval,xx,List.mem_cons,List.not_mem_nil,or_false,false_or,not_or,not_false_eq_true,true_or,or_true,z1w,setM,e2,n01,n03,n13])|(with_reducible first|refine And.intro ?_ ?_|(first|refine z01 ?_ ?_|refine z00 ?_ ?_)<;>intro hc<;>(try simp only [push_cast] at hc))|((with_reducible refine z0a ?_))|((with_reducible refine z2i [1,8] ?_))|omega|with_reducible intro _))
 refine z1b 6 (fun env=>[z0k 1 (env 6)]) [(1,z0b sets),(6,.map 0 1),(10,z03 [⟨sm,sm⟩]),(53,.lst 1 [.int .i64 p0.at_,.int .i64 p1.at_,.int .i64 p3.at_]),(54,.int .i64 3),(55,.int .i64 0)] [⟨0,1,true,[.int .i64 p0.at_,z0x [p0],.int .i64 p1.at_,z0x [p1,p2],.int .i64 p3.at_,z0x [p3]]⟩] ?_ ?_
 · (repeat' (first|(simp (disch:=omega) only [push_cast,↓zz,seval,e2,n01,n03,n13])|(with_reducible first|refine And.intro ?_ ?_|(first|refine z01 ?_ ?_|refine z00 ?_ ?_)<;>intro hc<;>(try simp only [push_cast] at hc))|omega|with_reducible intro _))
   all_goals (simp only [z1v,e2,n01,n03,n13];done)
 (repeat' (first|(simp (disch:=omega) only [push_cast,↓zz,seval,z1w,z1u,hg,e2,n01,n03,n13])|(with_reducible first|refine And.intro ?_ ?_|(first|refine z01 ?_ ?_|refine z00 ?_ ?_)<;>intro hc<;>(try simp only [push_cast] at hc))|((with_reducible refine z0a ?_))|((with_reducible first|refine eQ T1 ?_|refine eQ P1 ?_))|((with_reducible first|refine eQ T2 ?_|refine eQ P2 ?_))|((with_reducible first|refine eQ T3 ?_|refine eQ P3 ?_))|((with_reducible first|refine eK hF ?_|refine eK hL ?_))|omega|with_reducible intro _))
 all_goals ((try simp only [*,decide_true,decide_false,Bool.true_and,Bool.false_and]);(repeat' (first|(simp (disch:=omega) only [push_cast,↓zz,seval,z1i])|omega|(with_reducible refine And.intro ?_ ?_))))
theorem zoo (bs dr tk up sm:Int) (p0 p1 p2 p3:Part) (sets:List (List Span)) (hs:z1p sm=true) (hS:z2d [p0,p1,p2,p3] sets) (e3:p3.at_=p0.at_) (n01:¬ p0.at_=p1.at_) (n02:¬ p0.at_=p2.at_) (n12:¬ p1.at_=p2.at_) :
   PC Tryz.prog 148 [z1q ⟨bs,dr,tk,up,sm,[p0,p1,p2,p3]⟩,z0b sets] (.tup [z03 (z0o ⟨bs,dr,tk,up,sm,[p0,p1,p2,p3]⟩ sets),.bool (z1u (z0o ⟨bs,dr,tk,up,sm,[p0,p1,p2,p3]⟩ sets))]):=by
 have hg:=z05 sets
 have b0:=z08 (hS.parts p0 (by simp))
 have b1:=z08 (hS.parts p1 (by simp))
 have b2:=z08 (hS.parts p2 (by simp))
 have b3:=z08 (hS.parts p3 (by simp))
 have A0:=z2j hs
 obtain ⟨T1,P1,A1⟩:=z09 (a:=p0.at_) hS A0 (by omega) (by simp)
 have l1:atL [p0,p1,p2,p3] p0.at_=[p0,p3]:=by simp [atL,e3,n01,n02,n12,Ne.symm (show p0.at_ ≠ p1.at_ from n01),Ne.symm (show p0.at_ ≠ p2.at_ from n02),Ne.symm (show p1.at_ ≠ p2.at_ from n12)]
 rw [l1] at T1 P1
 obtain ⟨T2,P2,A2⟩:=z09 (a:=p1.at_) hS A1 (by omega) (by simp)
 have l2:atL [p0,p1,p2,p3] p1.at_=[p1]:=by simp [atL,e3,n01,n02,n12,Ne.symm (show p0.at_ ≠ p1.at_ from n01),Ne.symm (show p0.at_ ≠ p2.at_ from n02),Ne.symm (show p1.at_ ≠ p2.at_ from n12)]
 rw [l2] at T2 P2
 obtain ⟨T3,P3,A3⟩:=z09 (a:=p2.at_) hS A2 (by omega) (by simp)
 have l3:atL [p0,p1,p2,p3] p2.at_=[p2]:=by simp [atL,e3,n01,n02,n12,Ne.symm (show p0.at_ ≠ p1.at_ from n01),Ne.symm (show p0.at_ ≠ p2.at_ from n02),Ne.symm (show p1.at_ ≠ p2.at_ from n12)]
 rw [l3] at T3 P3
 have hv:z0o ⟨bs,dr,tk,up,sm,[p0,p1,p2,p3]⟩ sets=z0u [p0,p1,p2,p3] sets (z0u [p0,p1,p2,p3] sets (z0u [p0,p1,p2,p3] sets ([⟨sm,sm⟩]) p0.at_) p1.at_) p2.at_:=by simp [z0o,z1t,z1r,e3,n01,n02,n12,Ne.symm (show p0.at_ ≠ p1.at_ from n01),Ne.symm (show p0.at_ ≠ p2.at_ from n02),Ne.symm (show p1.at_ ≠ p2.at_ from n12)]
 rw [hv]
 generalize ho1:z0u [p0,p1,p2,p3] sets ([⟨sm,sm⟩]) p0.at_=o1 at *
 generalize ht1:togL [p0,p3] (nth sets p0.at_.toNat)=t1 at *
 generalize ho2:z0u [p0,p1,p2,p3] sets (o1) p1.at_=o2 at *
 generalize ht2:togL [p1] (nth sets p1.at_.toNat)=t2 at *
 generalize ho3:z0u [p0,p1,p2,p3] sets (o2) p2.at_=o3 at *
 generalize ht3:togL [p2] (nth sets p2.at_.toNat)=t3 at *
 have hF:=z1c o3 (by have:=A3.2;omega)
 have hL:=z1k o3 (by have:=A3.2;omega)
 clear hS hv ho1 ht1 l1 ho2 ht2 l2 ho3 ht3 l3
 refine z0s z0n ?_
 unfold z0l
 (repeat' (first|(simp (disch:=omega) only [push_cast,↓zz,seval])|(with_reducible first|refine And.intro ?_ ?_|(first|refine z01 ?_ ?_|refine z00 ?_ ?_)<;>intro hc<;>(try simp only [push_cast] at hc))|omega|with_reducible intro _))
 refine z0q 6 ?_
 (repeat' (first|(simp (disch:=omega) only [push_cast,↓zz,seval,xx,List.mem_cons,List.not_mem_nil,or_false,false_or,not_or,not_false_eq_true,true_or,or_true,z1w,setM,e3,n01,n02,n12])|(with_reducible first|refine And.intro ?_ ?_|(first|refine z01 ?_ ?_|refine z00 ?_ ?_)<;>intro hc<;>(try simp only [push_cast] at hc))|((with_reducible refine z0a ?_))|((with_reducible refine z2i [1,5] ?_))|omega|with_reducible intro _))
 refine z1b 6 (fun env=>[z0k 1 (env 6)]) [(1,z0b sets),(6,.map 0 1),(10,z03 [⟨sm,sm⟩]),(53,.lst 1 [.int .i64 p0.at_,.int .i64 p1.at_,.int .i64 p2.at_]),(54,.int .i64 3),(55,.int .i64 0)] [⟨0,1,true,[.int .i64 p0.at_,z0x [p0,p3],.int .i64 p1.at_,z0x [p1],.int .i64 p2.at_,z0x [p2]]⟩] ?_ ?_
 · (repeat' (first|(simp (disch:=omega) only [push_cast,↓zz,seval,e3,n01,n02,n12])|(with_reducible first|refine And.intro ?_ ?_|(first|refine z01 ?_ ?_|refine z00 ?_ ?_)<;>intro hc<;>(try simp only [push_cast] at hc))|omega|with_reducible intro _))
   all_goals (simp only [z1v,e3,n01,n02,n12];done)
 (repeat' (first|(simp (disch:=omega) only [push_cast,↓zz,seval,z1w,z1u,hg,e3,n01,n02,n12])|(with_reducible first|refine And.intro ?_ ?_|(first|refine z01 ?_ ?_|refine z00 ?_ ?_)<;>intro hc<;>(try simp only [push_cast] at hc))|((with_reducible refine z0a ?_))|((with_reducible first|refine eQ T1 ?_|refine eQ P1 ?_))|((with_reducible first|refine eQ T2 ?_|refine eQ P2 ?_))|((with_reducible first|refine eQ T3 ?_|refine eQ P3 ?_))|((with_reducible first|refine eK hF ?_|refine eK hL ?_))|omega|with_reducible intro _))
 all_goals ((try simp only [*,decide_true,decide_false,Bool.true_and,Bool.false_and]);(repeat' (first|(simp (disch:=omega) only [push_cast,↓zz,seval,z1i])|omega|(with_reducible refine And.intro ?_ ?_))))
theorem zop (bs dr tk up sm:Int) (p0 p1 p2 p3:Part) (sets:List (List Span)) (hs:z1p sm=true) (hS:z2d [p0,p1,p2,p3] sets) (e3:p3.at_=p1.at_) (n01:¬ p0.at_=p1.at_) (n02:¬ p0.at_=p2.at_) (n12:¬ p1.at_=p2.at_) :
   PC Tryz.prog 148 [z1q ⟨bs,dr,tk,up,sm,[p0,p1,p2,p3]⟩,z0b sets] (.tup [z03 (z0o ⟨bs,dr,tk,up,sm,[p0,p1,p2,p3]⟩ sets),.bool (z1u (z0o ⟨bs,dr,tk,up,sm,[p0,p1,p2,p3]⟩ sets))]):=by
 have hg:=z05 sets
 have b0:=z08 (hS.parts p0 (by simp))
 have b1:=z08 (hS.parts p1 (by simp))
 have b2:=z08 (hS.parts p2 (by simp))
 have b3:=z08 (hS.parts p3 (by simp))
 have A0:=z2j hs
 obtain ⟨T1,P1,A1⟩:=z09 (a:=p0.at_) hS A0 (by omega) (by simp)
 have l1:atL [p0,p1,p2,p3] p0.at_=[p0]:=by simp [atL,e3,n01,n02,n12,Ne.symm (show p0.at_ ≠ p1.at_ from n01),Ne.symm (show p0.at_ ≠ p2.at_ from n02),Ne.symm (show p1.at_ ≠ p2.at_ from n12)]
 rw [l1] at T1 P1
 obtain ⟨T2,P2,A2⟩:=z09 (a:=p1.at_) hS A1 (by omega) (by simp)
 have l2:atL [p0,p1,p2,p3] p1.at_=[p1,p3]:=by simp [atL,e3,n01,n02,n12,Ne.symm (show p0.at_ ≠ p1.at_ from n01),Ne.symm (show p0.at_ ≠ p2.at_ from n02),Ne.symm (show p1.at_ ≠ p2.at_ from n12)]
 rw [l2] at T2 P2
 obtain ⟨T3,P3,A3⟩:=z09 (a:=p2.at_) hS A2 (by omega) (by simp)
 have l3:atL [p0,p1,p2,p3] p2.at_=[p2]:=by simp [atL,e3,n01,n02,n12,Ne.symm (show p0.at_ ≠ p1.at_ from n01),Ne.symm (show p0.at_ ≠ p2.at_ from n02),Ne.symm (show p1.at_ ≠ p2.at_ from n12)]
 rw [l3] at T3 P3
 have hv:z0o ⟨bs,dr,tk,up,sm,[p0,p1,p2,p3]⟩ sets=z0u [p0,p1,p2,p3] sets (z0u [p0,p1,p2,p3] sets (z0u [p0,p1,p2,p3] sets ([⟨sm,sm⟩]) p0.at_) p1.at_) p2.at_:=by simp [z0o,z1t,z1r,e3,n01,n02,n12,Ne.symm (show p0.at_ ≠ p1.at_ from n01),Ne.symm (show p0.at_ ≠ p2.at_ from n02),Ne.symm (show p1.at_ ≠ p2.at_ from n12)]
 rw [hv]
 generalize ho1:z0u [p0,p1,p2,p3] sets ([⟨sm,sm⟩]) p0.at_=o1 at *
 generalize ht1:togL [p0] (nth sets p0.at_.toNat)=t1 at *
 generalize ho2:z0u [p0,p1,p2,p3] sets (o1) p1.at_=o2 at *
 generalize ht2:togL [p1,p3] (nth sets p1.at_.toNat)=t2 at *
 generalize ho3:z0u [p0,p1,p2,p3] sets (o2) p2.at_=o3 at *
 generalize ht3:togL [p2] (nth sets p2.at_.toNat)=t3 at *
 have hF:=z1c o3 (by have:=A3.2;omega)
 have hL:=z1k o3 (by have:=A3.2;omega)
 clear hS hv ho1 ht1 l1 ho2 ht2 l2 ho3 ht3 l3
 refine z0s z0n ?_
 unfold z0l
 (repeat' (first|(simp (disch:=omega) only [push_cast,↓zz,seval])|(with_reducible first|refine And.intro ?_ ?_|(first|refine z01 ?_ ?_|refine z00 ?_ ?_)<;>intro hc<;>(try simp only [push_cast] at hc))|omega|with_reducible intro _))
 refine z0q 6 ?_
 (repeat' (first|(simp (disch:=omega) only [push_cast,↓zz,seval,xx,List.mem_cons,List.not_mem_nil,or_false,false_or,not_or,not_false_eq_true,true_or,or_true,z1w,setM,e3,n01,n02,n12])|(with_reducible first|refine And.intro ?_ ?_|(first|refine z01 ?_ ?_|refine z00 ?_ ?_)<;>intro hc<;>(try simp only [push_cast] at hc))|((with_reducible refine z0a ?_))|((with_reducible refine z2i [1,8] ?_))|omega|with_reducible intro _))
 refine z1b 6 (fun env=>[z0k 1 (env 6)]) [(1,z0b sets),(6,.map 0 1),(10,z03 [⟨sm,sm⟩]),(53,.lst 1 [.int .i64 p0.at_,.int .i64 p1.at_,.int .i64 p2.at_]),(54,.int .i64 3),(55,.int .i64 0)] [⟨0,1,true,[.int .i64 p0.at_,z0x [p0],.int .i64 p1.at_,z0x [p1,p3],.int .i64 p2.at_,z0x [p2]]⟩] ?_ ?_
 · (repeat' (first|(simp (disch:=omega) only [push_cast,↓zz,seval,e3,n01,n02,n12])|(with_reducible first|refine And.intro ?_ ?_|(first|refine z01 ?_ ?_|refine z00 ?_ ?_)<;>intro hc<;>(try simp only [push_cast] at hc))|omega|with_reducible intro _))
   all_goals (simp only [z1v,e3,n01,n02,n12];done)
 (repeat' (first|(simp (disch:=omega) only [push_cast,↓zz,seval,z1w,z1u,hg,e3,n01,n02,n12])|(with_reducible first|refine And.intro ?_ ?_|(first|refine z01 ?_ ?_|refine z00 ?_ ?_)<;>intro hc<;>(try simp only [push_cast] at hc))|((with_reducible refine z0a ?_))|((with_reducible first|refine eQ T1 ?_|refine eQ P1 ?_))|((with_reducible first|refine eQ T2 ?_|refine eQ P2 ?_))|((with_reducible first|refine eQ T3 ?_|refine eQ P3 ?_))|((with_reducible first|refine eK hF ?_|refine eK hL ?_))|omega|with_reducible intro _))
 all_goals ((try simp only [*,decide_true,decide_false,Bool.true_and,Bool.false_and]);(repeat' (first|(simp (disch:=omega) only [push_cast,↓zz,seval,z1i])|omega|(with_reducible refine And.intro ?_ ?_))))
theorem zoq (bs dr tk up sm:Int) (p0 p1 p2 p3:Part) (sets:List (List Span)) (hs:z1p sm=true) (hS:z2d [p0,p1,p2,p3] sets) (e3:p3.at_=p2.at_) (n01:¬ p0.at_=p1.at_) (n02:¬ p0.at_=p2.at_) (n12:¬ p1.at_=p2.at_) :
   PC Tryz.prog 148 [z1q ⟨bs,dr,tk,up,sm,[p0,p1,p2,p3]⟩,z0b sets] (.tup [z03 (z0o ⟨bs,dr,tk,up,sm,[p0,p1,p2,p3]⟩ sets),.bool (z1u (z0o ⟨bs,dr,tk,up,sm,[p0,p1,p2,p3]⟩ sets))]):=by
 have hg:=z05 sets
 have b0:=z08 (hS.parts p0 (by simp))
 have b1:=z08 (hS.parts p1 (by simp))
 have b2:=z08 (hS.parts p2 (by simp))
 have b3:=z08 (hS.parts p3 (by simp))
 have A0:=z2j hs
 obtain ⟨T1,P1,A1⟩:=z09 (a:=p0.at_) hS A0 (by omega) (by simp)
 have l1:atL [p0,p1,p2,p3] p0.at_=[p0]:=by simp [atL,e3,n01,n02,n12,Ne.symm (show p0.at_ ≠ p1.at_ from n01),Ne.symm (show p0.at_ ≠ p2.at_ from n02),Ne.symm (show p1.at_ ≠ p2.at_ from n12)]
 rw [l1] at T1 P1
 obtain ⟨T2,P2,A2⟩:=z09 (a:=p1.at_) hS A1 (by omega) (by simp)
 have l2:atL [p0,p1,p2,p3] p1.at_=[p1]:=by simp [atL,e3,n01,n02,n12,Ne.symm (show p0.at_ ≠ p1.at_ from n01),Ne.symm (show p0.at_ ≠ p2.at_ from n02),Ne.symm (show p1.at_ ≠ p2.at_ from n12)]
 rw [l2] at T2 P2
 obtain ⟨T3,P3,A3⟩:=z09 (a:=p2.at_) hS A2 (by omega) (by simp)
 have l3:atL [p0,p1,p2,p3] p2.at_=[p2,p3]:=by simp [atL,e3,n01,n02,n12,Ne.symm (show p0.at_ ≠ p1.at_ from n01),Ne.symm (show p0.at_ ≠ p2.at_ from n02),Ne.symm (show p1.at_ ≠ p2.at_ from n12)]
 rw [l3] at T3 P3
 have hv:z0o ⟨bs,dr,tk,up,sm,[p0,p1,p2,p3]⟩ sets=z0u [p0,p1,p2,p3] sets (z0u [p0,p1,p2,p3] sets (z0u [p0,p1,p2,p3] sets ([⟨sm,sm⟩]) p0.at_) p1.at_) p2.at_:=by simp [z0o,z1t,z1r,e3,n01,n02,n12,Ne.symm (show p0.at_ ≠ p1.at_ from n01),Ne.symm (show p0.at_ ≠ p2.at_ from n02),Ne.symm (show p1.at_ ≠ p2.at_ from n12)]
 rw [hv]
 generalize ho1:z0u [p0,p1,p2,p3] sets ([⟨sm,sm⟩]) p0.at_=o1 at *
 generalize ht1:togL [p0] (nth sets p0.at_.toNat)=t1 at *
 generalize ho2:z0u [p0,p1,p2,p3] sets (o1) p1.at_=o2 at *
 generalize ht2:togL [p1] (nth sets p1.at_.toNat)=t2 at *
 generalize ho3:z0u [p0,p1,p2,p3] sets (o2) p2.at_=o3 at *
 generalize ht3:togL [p2,p3] (nth sets p2.at_.toNat)=t3 at *
 have hF:=z1c o3 (by have:=A3.2;omega)
 have hL:=z1k o3 (by have:=A3.2;omega)
 clear hS hv ho1 ht1 l1 ho2 ht2 l2 ho3 ht3 l3
 refine z0s z0n ?_
 unfold z0l
 (repeat' (first|(simp (disch:=omega) only [push_cast,↓zz,seval])|(with_reducible first|refine And.intro ?_ ?_|(first|refine z01 ?_ ?_|refine z00 ?_ ?_)<;>intro hc<;>(try simp only [push_cast] at hc))|omega|with_reducible intro _))
 refine z0q 6 ?_
 (repeat' (first|(simp (disch:=omega) only [push_cast,↓zz,seval,xx,List.mem_cons,List.not_mem_nil,or_false,false_or,not_or,not_false_eq_true,true_or,or_true,z1w,setM,e3,n01,n02,n12])|(with_reducible first|refine And.intro ?_ ?_|(first|refine z01 ?_ ?_|refine z00 ?_ ?_)<;>intro hc<;>(try simp only [push_cast] at hc))|((with_reducible refine z0a ?_))|((with_reducible refine z2i [1,11] ?_))|omega|with_reducible intro _))
 refine z1b 6 (fun env=>[z0k 1 (env 6)]) [(1,z0b sets),(6,.map 0 1),(10,z03 [⟨sm,sm⟩]),(53,.lst 1 [.int .i64 p0.at_,.int .i64 p1.at_,.int .i64 p2.at_]),(54,.int .i64 3),(55,.int .i64 0)] [⟨0,1,true,[.int .i64 p0.at_,z0x [p0],.int .i64 p1.at_,z0x [p1],.int .i64 p2.at_,z0x [p2,p3]]⟩] ?_ ?_
 · (repeat' (first|(simp (disch:=omega) only [push_cast,↓zz,seval,e3,n01,n02,n12])|(with_reducible first|refine And.intro ?_ ?_|(first|refine z01 ?_ ?_|refine z00 ?_ ?_)<;>intro hc<;>(try simp only [push_cast] at hc))|omega|with_reducible intro _))
   all_goals (simp only [z1v,e3,n01,n02,n12];done)
 (repeat' (first|(simp (disch:=omega) only [push_cast,↓zz,seval,z1w,z1u,hg,e3,n01,n02,n12])|(with_reducible first|refine And.intro ?_ ?_|(first|refine z01 ?_ ?_|refine z00 ?_ ?_)<;>intro hc<;>(try simp only [push_cast] at hc))|((with_reducible refine z0a ?_))|((with_reducible first|refine eQ T1 ?_|refine eQ P1 ?_))|((with_reducible first|refine eQ T2 ?_|refine eQ P2 ?_))|((with_reducible first|refine eQ T3 ?_|refine eQ P3 ?_))|((with_reducible first|refine eK hF ?_|refine eK hL ?_))|omega|with_reducible intro _))
 all_goals ((try simp only [*,decide_true,decide_false,Bool.true_and,Bool.false_and]);(repeat' (first|(simp (disch:=omega) only [push_cast,↓zz,seval,z1i])|omega|(with_reducible refine And.intro ?_ ?_))))
theorem zor (bs dr tk up sm:Int) (p0 p1 p2 p3:Part) (sets:List (List Span)) (hs:z1p sm=true) (hS:z2d [p0,p1,p2,p3] sets) (n01:¬ p0.at_=p1.at_) (n02:¬ p0.at_=p2.at_) (n03:¬ p0.at_=p3.at_) (n12:¬ p1.at_=p2.at_) (n13:¬ p1.at_=p3.at_) (n23:¬ p2.at_=p3.at_) :
   PC Tryz.prog 148 [z1q ⟨bs,dr,tk,up,sm,[p0,p1,p2,p3]⟩,z0b sets] (.tup [z03 (z0o ⟨bs,dr,tk,up,sm,[p0,p1,p2,p3]⟩ sets),.bool (z1u (z0o ⟨bs,dr,tk,up,sm,[p0,p1,p2,p3]⟩ sets))]):=by
 have hg:=z05 sets
 have b0:=z08 (hS.parts p0 (by simp))
 have b1:=z08 (hS.parts p1 (by simp))
 have b2:=z08 (hS.parts p2 (by simp))
 have b3:=z08 (hS.parts p3 (by simp))
 have A0:=z2j hs
 obtain ⟨T1,P1,A1⟩:=z09 (a:=p0.at_) hS A0 (by omega) (by simp)
 have l1:atL [p0,p1,p2,p3] p0.at_=[p0]:=by simp [atL,n01,n02,n03,n12,n13,n23,Ne.symm (show p0.at_ ≠ p1.at_ from n01),Ne.symm (show p0.at_ ≠ p2.at_ from n02),Ne.symm (show p0.at_ ≠ p3.at_ from n03),Ne.symm (show p1.at_ ≠ p2.at_ from n12),Ne.symm (show p1.at_ ≠ p3.at_ from n13),Ne.symm (show p2.at_ ≠ p3.at_ from n23)]
 rw [l1] at T1 P1
 obtain ⟨T2,P2,A2⟩:=z09 (a:=p1.at_) hS A1 (by omega) (by simp)
 have l2:atL [p0,p1,p2,p3] p1.at_=[p1]:=by simp [atL,n01,n02,n03,n12,n13,n23,Ne.symm (show p0.at_ ≠ p1.at_ from n01),Ne.symm (show p0.at_ ≠ p2.at_ from n02),Ne.symm (show p0.at_ ≠ p3.at_ from n03),Ne.symm (show p1.at_ ≠ p2.at_ from n12),Ne.symm (show p1.at_ ≠ p3.at_ from n13),Ne.symm (show p2.at_ ≠ p3.at_ from n23)]
 rw [l2] at T2 P2
 obtain ⟨T3,P3,A3⟩:=z09 (a:=p2.at_) hS A2 (by omega) (by simp)
 have l3:atL [p0,p1,p2,p3] p2.at_=[p2]:=by simp [atL,n01,n02,n03,n12,n13,n23,Ne.symm (show p0.at_ ≠ p1.at_ from n01),Ne.symm (show p0.at_ ≠ p2.at_ from n02),Ne.symm (show p0.at_ ≠ p3.at_ from n03),Ne.symm (show p1.at_ ≠ p2.at_ from n12),Ne.symm (show p1.at_ ≠ p3.at_ from n13),Ne.symm (show p2.at_ ≠ p3.at_ from n23)]
 rw [l3] at T3 P3
 obtain ⟨T4,P4,A4⟩:=z09 (a:=p3.at_) hS A3 (by omega) (by simp)
 have l4:atL [p0,p1,p2,p3] p3.at_=[p3]:=by simp [atL,n01,n02,n03,n12,n13,n23,Ne.symm (show p0.at_ ≠ p1.at_ from n01),Ne.symm (show p0.at_ ≠ p2.at_ from n02),Ne.symm (show p0.at_ ≠ p3.at_ from n03),Ne.symm (show p1.at_ ≠ p2.at_ from n12),Ne.symm (show p1.at_ ≠ p3.at_ from n13),Ne.symm (show p2.at_ ≠ p3.at_ from n23)]
 rw [l4] at T4 P4
 have hv:z0o ⟨bs,dr,tk,up,sm,[p0,p1,p2,p3]⟩ sets=z0u [p0,p1,p2,p3] sets (z0u [p0,p1,p2,p3] sets (z0u [p0,p1,p2,p3] sets (z0u [p0,p1,p2,p3] sets ([⟨sm,sm⟩]) p0.at_) p1.at_) p2.at_) p3.at_:=by simp [z0o,z1t,z1r,n01,n02,n03,n12,n13,n23,Ne.symm (show p0.at_ ≠ p1.at_ from n01),Ne.symm (show p0.at_ ≠ p2.at_ from n02),Ne.symm (show p0.at_ ≠ p3.at_ from n03),Ne.symm (show p1.at_ ≠ p2.at_ from n12),Ne.symm (show p1.at_ ≠ p3.at_ from n13),Ne.symm (show p2.at_ ≠ p3.at_ from n23)]
 rw [hv]
 generalize ho1:z0u [p0,p1,p2,p3] sets ([⟨sm,sm⟩]) p0.at_=o1 at *
 generalize ht1:togL [p0] (nth sets p0.at_.toNat)=t1 at *
 generalize ho2:z0u [p0,p1,p2,p3] sets (o1) p1.at_=o2 at *
 generalize ht2:togL [p1] (nth sets p1.at_.toNat)=t2 at *
 generalize ho3:z0u [p0,p1,p2,p3] sets (o2) p2.at_=o3 at *
 generalize ht3:togL [p2] (nth sets p2.at_.toNat)=t3 at *
 generalize ho4:z0u [p0,p1,p2,p3] sets (o3) p3.at_=o4 at *
 generalize ht4:togL [p3] (nth sets p3.at_.toNat)=t4 at *
 have hF:=z1c o4 (by have:=A4.2;omega)
 have hL:=z1k o4 (by have:=A4.2;omega)
 clear hS hv ho1 ht1 l1 ho2 ht2 l2 ho3 ht3 l3 ho4 ht4 l4
 refine z0s z0n ?_
 unfold z0l
 (repeat' (first|(simp (disch:=omega) only [push_cast,↓zz,seval])|(with_reducible first|refine And.intro ?_ ?_|(first|refine z01 ?_ ?_|refine z00 ?_ ?_)<;>intro hc<;>(try simp only [push_cast] at hc))|omega|with_reducible intro _))
 refine z0q 6 ?_
 (repeat' (first|(simp (disch:=omega) only [push_cast,↓zz,seval,xx,List.mem_cons,List.not_mem_nil,or_false,false_or,not_or,not_false_eq_true,true_or,or_true,z1w,setM,n01,n02,n03,n12,n13,n23])|(with_reducible first|refine And.intro ?_ ?_|(first|refine z01 ?_ ?_|refine z00 ?_ ?_)<;>intro hc<;>(try simp only [push_cast] at hc))|((with_reducible refine z0a ?_))|((with_reducible refine z2i [1] ?_))|omega|with_reducible intro _))
 refine z1b 6 (fun env=>[z0k 1 (env 6)]) [(1,z0b sets),(6,.map 0 1),(10,z03 [⟨sm,sm⟩]),(53,.lst 1 [.int .i64 p0.at_,.int .i64 p1.at_,.int .i64 p2.at_,.int .i64 p3.at_]),(54,.int .i64 4),(55,.int .i64 0)] [⟨0,1,true,[.int .i64 p0.at_,z0x [p0],.int .i64 p1.at_,z0x [p1],.int .i64 p2.at_,z0x [p2],.int .i64 p3.at_,z0x [p3]]⟩] ?_ ?_
 · (repeat' (first|(simp (disch:=omega) only [push_cast,↓zz,seval,n01,n02,n03,n12,n13,n23])|(with_reducible first|refine And.intro ?_ ?_|(first|refine z01 ?_ ?_|refine z00 ?_ ?_)<;>intro hc<;>(try simp only [push_cast] at hc))|omega|with_reducible intro _))
   all_goals (simp only [z1v,n01,n02,n03,n12,n13,n23];done)
 (repeat' (first|(simp (disch:=omega) only [push_cast,↓zz,seval,z1w,z1u,hg,n01,n02,n03,n12,n13,n23])|(with_reducible first|refine And.intro ?_ ?_|(first|refine z01 ?_ ?_|refine z00 ?_ ?_)<;>intro hc<;>(try simp only [push_cast] at hc))|((with_reducible refine z0a ?_))|((with_reducible first|refine eQ T1 ?_|refine eQ P1 ?_))|((with_reducible first|refine eQ T2 ?_|refine eQ P2 ?_))|((with_reducible first|refine eQ T3 ?_|refine eQ P3 ?_))|((with_reducible first|refine eQ T4 ?_|refine eQ P4 ?_))|((with_reducible first|refine eK hF ?_|refine eK hL ?_))|omega|with_reducible intro _))
 all_goals ((try simp only [*,decide_true,decide_false,Bool.true_and,Bool.false_and]);(repeat' (first|(simp (disch:=omega) only [push_cast,↓zz,seval,z1i])|omega|(with_reducible refine And.intro ?_ ?_))))
theorem y2s (bs dr tk up sm:Int) (p0 p1 p2 p3:Part) (sets:List (List Span)) (hs:z1p sm=true) (hS:z2d [p0,p1,p2,p3] sets) :
   PC Tryz.prog 148 [z1q ⟨bs,dr,tk,up,sm,[p0,p1,p2,p3]⟩,z0b sets] (.tup [z03 (z0o ⟨bs,dr,tk,up,sm,[p0,p1,p2,p3]⟩ sets),.bool (z1u (z0o ⟨bs,dr,tk,up,sm,[p0,p1,p2,p3]⟩ sets))]):=by
 rcases Classical.em (p1.at_=p0.at_) with e1|x01
 · skip
   rcases Classical.em (p2.at_=p0.at_) with e2|x02
   · skip
     rcases Classical.em (p3.at_=p0.at_) with e3|x03
     · skip
       exact zts bs dr tk up sm p0 p1 p2 p3 sets hs hS e1 e2 e3
     have n03:¬ p0.at_=p3.at_:=fun h=>x03 h.symm
     exact ztt bs dr tk up sm p0 p1 p2 p3 sets hs hS e1 e2 n03
   have n02:¬ p0.at_=p2.at_:=fun h=>x02 h.symm
   rcases Classical.em (p3.at_=p0.at_) with e3|x03
   · skip
     exact ztu bs dr tk up sm p0 p1 p2 p3 sets hs hS e1 e3 n02
   have n03:¬ p0.at_=p3.at_:=fun h=>x03 h.symm
   rcases Classical.em (p3.at_=p2.at_) with e3|x23
   · skip
     exact ztv bs dr tk up sm p0 p1 p2 p3 sets hs hS e1 e3 n02
   have n23:¬ p2.at_=p3.at_:=fun h=>x23 h.symm
   exact ztw bs dr tk up sm p0 p1 p2 p3 sets hs hS e1 n02 n03 n23
 have n01:¬ p0.at_=p1.at_:=fun h=>x01 h.symm
 rcases Classical.em (p2.at_=p0.at_) with e2|x02
 · skip
   rcases Classical.em (p3.at_=p0.at_) with e3|x03
   · skip
     exact ztx bs dr tk up sm p0 p1 p2 p3 sets hs hS e2 e3 n01
   have n03:¬ p0.at_=p3.at_:=fun h=>x03 h.symm
   rcases Classical.em (p3.at_=p1.at_) with e3|x13
   · skip
     exact zty bs dr tk up sm p0 p1 p2 p3 sets hs hS e2 e3 n01
   have n13:¬ p1.at_=p3.at_:=fun h=>x13 h.symm
   exact ztz bs dr tk up sm p0 p1 p2 p3 sets hs hS e2 n01 n03 n13
 have n02:¬ p0.at_=p2.at_:=fun h=>x02 h.symm
 rcases Classical.em (p2.at_=p1.at_) with e2|x12
 · skip
   rcases Classical.em (p3.at_=p0.at_) with e3|x03
   · skip
     exact zu0 bs dr tk up sm p0 p1 p2 p3 sets hs hS e2 e3 n01
   have n03:¬ p0.at_=p3.at_:=fun h=>x03 h.symm
   rcases Classical.em (p3.at_=p1.at_) with e3|x13
   · skip
     exact zu1 bs dr tk up sm p0 p1 p2 p3 sets hs hS e2 e3 n01
   have n13:¬ p1.at_=p3.at_:=fun h=>x13 h.symm
   exact zon bs dr tk up sm p0 p1 p2 p3 sets hs hS e2 n01 n03 n13
 have n12:¬ p1.at_=p2.at_:=fun h=>x12 h.symm
 rcases Classical.em (p3.at_=p0.at_) with e3|x03
 · skip
   exact zoo bs dr tk up sm p0 p1 p2 p3 sets hs hS e3 n01 n02 n12
 have n03:¬ p0.at_=p3.at_:=fun h=>x03 h.symm
 rcases Classical.em (p3.at_=p1.at_) with e3|x13
 · skip
   exact zop bs dr tk up sm p0 p1 p2 p3 sets hs hS e3 n01 n02 n12
 have n13:¬ p1.at_=p3.at_:=fun h=>x13 h.symm
 rcases Classical.em (p3.at_=p2.at_) with e3|x23
 · skip
   exact zoq bs dr tk up sm p0 p1 p2 p3 sets hs hS e3 n01 n02 n12
 have n23:¬ p2.at_=p3.at_:=fun h=>x23 h.symm
 exact zor bs dr tk up sm p0 p1 p2 p3 sets hs hS n01 n02 n03 n12 n13 n23
theorem zos (t:Term) (sets:List (List Span)) (hl:t.parts.length ≤ 4) (hs:z1p t.sum=true) (hS:z2d t.parts sets) :
   PC Tryz.prog 148 [z1q t,z0b sets] (.tup [z03 (z0o t sets),.bool (z1u (z0o t sets))]):=by
 obtain ⟨bs,dr,tk,up,sm,l⟩:=t
 match l,hl,hS with
 | [],_,hS=>exact y2o bs dr tk up sm sets hs hS
 | [p0],_,hS=>exact y2p bs dr tk up sm p0 sets hs hS
 | [p0,p1],_,hS=>exact y2q bs dr tk up sm p0 p1 sets hs hS
 | [p0,p1,p2],_,hS=>exact y2r bs dr tk up sm p0 p1 p2 sets hs hS
 | [p0,p1,p2,p3],_,hS=>exact y2s bs dr tk up sm p0 p1 p2 p3 sets hs hS
 | _ :: _ :: _ :: _ :: _ :: _,hl,_=>simp at hl
def midG (gs:List (List Span)) (k:Nat):List (List Span):=(gs.take k).map symI ++ List.replicate (gs.length - k) []
theorem zrd {gs:List (List Span)} {k:Nat} (h:k ≤ gs.length):(midG gs k).length=gs.length:=by simp [midG];omega
theorem y2t (gs:List (List Span)):midG gs gs.length=gs.map symI:=by simp [midG]
theorem y2u {gs:List (List Span)} {k:Nat} (h:k < gs.length):((midG gs k).map z03).set k (z03 (symI (nth gs k)))=(midG gs (k + 1)).map z03:=by
 have e:gs.length - k=(gs.length - (k + 1)) + 1:=by omega
 rw [midG,midG,take_at h,e,List.replicate_succ,List.map_append,List.set_append_right _ _ (by simp;omega)]
 simp [show min k gs.length=k by omega]
theorem y8a {gs:List (List Span)} {k:Nat} (h:k < gs.length):nth (midG gs (k + 1)) k=symI (nth gs k):=by
 rw [midG,take_at h,nth,List.getD_eq_getElem?_getD,List.map_append,List.append_assoc,List.getElem?_append_right (by simp;omega)]
 simp [show min k gs.length=k by omega]
theorem y2v (n:Nat):z0p (List.replicate n AV.nilS)=true:=by
 induction n with
 | zero=>rfl
 | succ n ih=>simp [List.replicate_succ,z0p,AV.pure,ih]
theorem y2w (l:List Grp) (gs:List (List Span)):leSL l (List.replicate gs.length .nilS) ((midG gs 0).map z03):=by
 simp only [midG,List.take_zero,List.map_nil,List.nil_append,Nat.sub_zero,List.map_replicate]
 generalize gs.length=n
 induction n with
 | zero=>rfl
 | succ n ih=>exact ⟨⟨by decide,rfl⟩,ih⟩
def zbd (gs:List (List Span)) (k:Nat):Bool:=(gs.take k).all fun g=>decide (0 < ((symI g).length:Int))
theorem y2x {gs:List (List Span)} {k:Nat} (h:k < gs.length):zbd gs (k + 1)=(zbd gs k && decide (0 < ((symI (nth gs k)).length:Int))):=by
 rw [zbd,take_at h,List.all_append];simp [zbd]
def prtB (t:Term) (n:Int):Bool:=t.parts.all fun p=>z2y p n
def z42 (t:Term) (gs:List (List Span)):List Span × Bool :=
 if 4 < gs.length ∨ z1s t=false then ([],false) else if prtB t gs.length=false then ([],false) else
   if zbd gs gs.length=false then ([],true) else (z0o t (gs.map symI),z1u (z0o t (gs.map symI)))
theorem yc0 {l:List Part} {n:Int} {k:Nat} (h:k < l.length):(l.drop k).all (fun p=>z2y p n)=(z2y (nth l k) n && (l.drop (k + 1)).all fun p=>z2y p n):=by rw [drop_at h,List.all_cons]
theorem z8b {t:Term} {gs:List (List Span)} (h:prtB t gs.length=true) (hg:gs.length ≤ 4):z2d t.parts (gs.map symI) where
 parts p hp:=by
   rw [List.length_map]
   exact List.all_eq_true.1 h p hp
 syms s hs:=by
   obtain ⟨g,_,rfl⟩:=List.mem_map.1 hs
   exact zmf g
 many:=by simp;omega
theorem zu2 (t:Term) (gs:List (List Span)) (ht:t.parts.length < 1000000000000) (hg:∀ g ∈ gs,g.length ≤ 1000000) (hl:gs.length ≤ 9223372036854775807) :
   PC Tryz.prog 135 [z1q t,z0b gs] (.tup [z03 (z42 t gs).1,.bool (z42 t gs).2]):=by
 have hP:=z05 gs
 have hN:=z7l t ht
 have hY:=zmg
 refine z0s zlx ?_
 unfold zcb
 by_cases h1:4 < gs.length ∨ z1s t=false
 · rw [z42,if_pos h1]
   (repeat' (first|(simp (disch:=omega) only [push_cast,↓zz,seval])|(with_reducible first|refine And.intro ?_ ?_|(first|refine z01 ?_ ?_|refine z00 ?_ ?_)<;>intro hc<;>(try simp only [push_cast] at hc))|((with_reducible first|refine eK hN ?_|refine eQ hN ?_|refine eG hN ?_))|((with_reducible first|refine cK hN ?_|refine cQ hN ?_|refine cG hN ?_);(simp (disch:=omega) only [push_cast,↓zz,seval]);(fail_if_success (with_reducible change False)))|omega|with_reducible intro _))
   all_goals first
     | ((repeat' (first|(simp (disch:=omega) only [push_cast,↓zz,seval,z1i])|omega|(with_reducible refine And.intro ?_ ?_)));done)
     | (exfalso;rcases h1 with h1|h1<;>first|omega|simp_all)
 have h4:gs.length ≤ 4:=by omega
 have hn:z1s t=true:=by simpa using (not_or.1 h1).2
 (repeat' (first|(simp (disch:=omega) only [push_cast,↓zz,seval,hn])|(with_reducible first|refine And.intro ?_ ?_|(first|refine z01 ?_ ?_|refine z00 ?_ ?_)<;>intro hc<;>(try simp only [push_cast] at hc))|((with_reducible first|refine eK hN ?_|refine eQ hN ?_|refine eG hN ?_))|((with_reducible first|refine cK hN ?_|refine cQ hN ?_|refine cG hN ?_);(simp (disch:=omega) only [push_cast,↓zz,seval,hn]);(fail_if_success (with_reducible change False)))|omega|with_reducible intro _))
 refine z0f (z0g (fun (k:Nat)=>k ≤ gs.length) (fun k=>gs.length - k)
   (fun k=>[(1,z0b gs),(2,.ptr 0 1 0 0),(6,.bool (zbd gs k)),(7,.ref 1 1 0 gs.length),(23,z0b gs),(24,.int .i64 gs.length),(25,.int .i64 k)]) (fun k=>[⟨6,1,true,[z1q t]⟩,⟨1,1,true,(midG gs k).map z03⟩]) (fun env _=>[z0k 1 (env 2),z0k 1 (env 7)]) 0 (by simp) ?_ ?_)
 · have e:=y2w
   have hr:z0p (List.replicate gs.length AV.nilS)=true:=y2v gs.length
   have hs0:zbd gs 0=true:=rfl
   (repeat' (first|(simp (disch:=omega) only [push_cast,↓zz,seval,hs0,hP,hr])|(with_reducible first|refine And.intro ?_ ?_|(first|refine z01 ?_ ?_|refine z00 ?_ ?_)<;>intro hc<;>(try simp only [push_cast] at hc))|omega|with_reducible intro _))
   all_goals exact e _ gs
 intro k hk
 have hml:=zrd hk
 have hpm:=z05 (midG gs k)
 rcases Nat.lt_or_ge k gs.length with hkl|hkl
 · have hM:=zel (nth gs k) [⟨0,1114111⟩] (by have:=hg _ (z0i hkl);omega) (by simp)
   rw [y2m] at hM
   have e1:=y2u hkl
   have e2:=y8a hkl
   have e3:=y2x hkl
   have hpm2:=z05 (midG gs (k + 1))
   have hml2:=zrd (gs:=gs) (k:=k + 1) (by omega)
   refine W_T ?_
   (repeat' (first|(simp (disch:=omega) only [push_cast,↓zz,seval,hP,hpm,hpm2,hml,hml2,e1,e2])|(with_reducible first|refine And.intro ?_ ?_|(first|refine z01 ?_ ?_|refine z00 ?_ ?_)<;>intro hc<;>(try simp only [push_cast] at hc))|((with_reducible first|refine eK hY ?_|refine eQ hY ?_|refine eG hY ?_))|((with_reducible first|refine eK hM ?_|refine eQ hM ?_|refine eG hM ?_))|((with_reducible first|refine cK hY ?_|refine cQ hY ?_|refine cG hY ?_);(simp (disch:=omega) only [push_cast,↓zz,seval,hP,hpm,hpm2,hml,hml2,e1,e2]);(fail_if_success (with_reducible change False)))|((with_reducible first|refine cK hM ?_|refine cQ hM ?_|refine cG hM ?_);(simp (disch:=omega) only [push_cast,↓zz,seval,hP,hpm,hpm2,hml,hml2,e1,e2]);(fail_if_success (with_reducible change False)))|omega|with_reducible intro _))
   all_goals
     refine ⟨k + 1,?_⟩
     (repeat' (first|(simp (disch:=omega) only [push_cast,↓zz,seval,e3])|(with_reducible first|refine And.intro ?_ ?_|(first|refine z01 ?_ ?_|refine z00 ?_ ?_)<;>intro hc<;>(try simp only [push_cast] at hc))|omega|with_reducible intro _))
   all_goals (simp only [*,Bool.true_and,Bool.false_and])
 · obtain rfl:k=gs.length:=by omega
   rw [y2t] at *
   refine W_T ?_
   (repeat' (first|(simp (disch:=omega) only [push_cast,↓zz,seval,hP,hpm])|(with_reducible first|refine And.intro ?_ ?_|(first|refine z01 ?_ ?_|refine z00 ?_ ?_)<;>intro hc<;>(try simp only [push_cast] at hc))|omega|with_reducible intro _))
   refine z0f (z0g (fun (k:Nat)=>k ≤ t.parts.length∧prtB t gs.length=(t.parts.drop k).all fun p=>z2y p gs.length) (fun k=>t.parts.length - k)
     (fun k=>[(1,z0b gs),(2,.ptr 0 1 0 0),(6,.bool (zbd gs gs.length)),(7,z0b (gs.map symI)),(47,z0x t.parts),(48,.int .i64 t.parts.length),(49,.int .i64 k)]) (fun k=>[⟨6,1,true,[z1q t]⟩]) (fun env _=>[z0k 1 (env 2)]) 0 ⟨by simp,rfl⟩ ?_ ?_)
   · have et:List.take gs.length (gs.map symI)=gs.map symI:=List.take_of_length_le (by simp)
     (repeat' (first|(simp (disch:=omega) only [push_cast,↓zz,seval,hP,hpm,et])|(with_reducible first|refine And.intro ?_ ?_|(first|refine z01 ?_ ?_|refine z00 ?_ ?_)<;>intro hc<;>(try simp only [push_cast] at hc))|omega|with_reducible intro _))
   rintro k ⟨k1,k2⟩
   rcases Nat.lt_or_ge k t.parts.length with hkp|hkp
   · have hR:=z86 (nth t.parts k) gs.length
     rw [yc0 hkp] at k2
     refine W_T ?_
     (repeat' (first|(simp (disch:=omega) only [push_cast,↓zz,seval,hP,hpm])|(with_reducible first|refine And.intro ?_ ?_|(first|refine z01 ?_ ?_|refine z00 ?_ ?_)<;>intro hc<;>(try simp only [push_cast] at hc))|((with_reducible first|refine eK hR ?_|refine eQ hR ?_|refine eG hR ?_))|((with_reducible first|refine cK hR ?_|refine cQ hR ?_|refine cG hR ?_);(simp (disch:=omega) only [push_cast,↓zz,seval,hP,hpm]);(fail_if_success (with_reducible change False)))|omega|with_reducible intro _))
     · have hp:prtB t gs.length=false:=by rw [k2];simp [*]
       rw [z42,if_neg h1,if_pos hp]
       (repeat' (first|(simp (disch:=omega) only [push_cast,↓zz,seval,z1i])|omega|(with_reducible refine And.intro ?_ ?_)))
     · exact ⟨k + 1,by push_cast,⟨by omega,by rw [k2];simp [*]⟩,by omega⟩
   · rw [List.drop_of_length_le hkp] at k2
     have hp:prtB t gs.length=true:=k2
     have hnum:=hn
     simp only [z1s,Bool.and_eq_true,decide_eq_true_eq] at hnum
     have hV:=zos t (gs.map symI) hnum.2.2 hnum.1.1.2 (z8b hp h4)
     have hI:z42 t gs=if zbd gs gs.length=false then ([],true) else (z0o t (gs.map symI),z1u (z0o t (gs.map symI))):=by rw [z42,if_neg h1,if_neg (by simp [hp])]
     refine W_T ?_
     (repeat' (first|(simp (disch:=omega) only [push_cast,↓zz,seval,hP,hpm])|(with_reducible first|refine And.intro ?_ ?_|(first|refine z01 ?_ ?_|refine z00 ?_ ?_)<;>intro hc<;>(try simp only [push_cast] at hc))|((with_reducible first|refine eK hV ?_|refine eQ hV ?_|refine eG hV ?_))|((with_reducible first|refine cK hV ?_|refine cQ hV ?_|refine cG hV ?_);(simp (disch:=omega) only [push_cast,↓zz,seval,hP,hpm]);(fail_if_success (with_reducible change False)))|omega|with_reducible intro _))
     all_goals
       rw [hI]
       first
         | rw [if_pos (by assumption)]
         | rw [if_neg (by simp [*])]
       (repeat' (first|(simp (disch:=omega) only [push_cast,↓zz,seval,z1i])|omega|(with_reducible refine And.intro ?_ ?_)))
     all_goals trace_state
def z43 (t:Term) (gs:List (List Span)):List Span × Bool :=
 if (z42 t gs).2=false then ([],false) else if (z42 t gs).1.length=0 then ([],true) else (z3m (imgL t.outer (z42 t gs).1) t.base,true)
theorem zy9 (t:Term) (gs:List (List Span)) (h:z1p t.sum=true):(z42 t gs).1.length ≤ 2147483649:=by
 unfold z42
 repeat' split
 all_goals first|(simp;done)|skip
 unfold z0o
 have key:∀ (pl:List Int) (out:List Span),Acc out→Acc (pl.foldl (z0u t.parts (gs.map symI)) out):=fun pl=>by
   induction pl with
   | nil=>exact fun out h=>h
   | cons a pl ih=>exact fun out h=>ih _ (zrb _ _)
 exact (key _ _ (z2j h)).2
theorem zu3 (t:Term) (gs:List (List Span)) (ht:t.parts.length < 1000000000000) (hg:∀ g ∈ gs,g.length ≤ 1000000) (hl:gs.length ≤ 9223372036854775807) :
   PC Tryz.prog 115 [z1q t,z0b gs] (.tup [z03 (z43 t gs).1,.bool (z43 t gs).2]):=by
 have hP:=z05 gs
 have hI:=zu2 t gs ht hg hl
 have hO:=z6f t
 have hlen:(z42 t gs).2=true→(z42 t gs).1.length ≤ 2147483649:=fun h=>by
   by_cases hs:z1p t.sum=true
   · exact zy9 t gs hs
   · have:z1s t=false:=by simp [z1s,hs]
     rw [z42,if_pos (.inr this)] at h
     cases h
 refine z0s zlt ?_
 unfold zc7
 rcases Bool.eq_false_or_eq_true (z42 t gs).2 with h2|h2
 · have hl2:=hlen h2
   have hA:=zjk t.outer (z42 t gs).1
   have hM:=zh8 t.outer (z42 t gs).1 (by omega)
   have hV:=zy2 (imgL t.outer (z42 t gs).1) t.base (by have:=hA.2;omega)
   (repeat' (first|(simp (disch:=omega) only [push_cast,↓zz,seval,hP,h2])|(with_reducible first|refine And.intro ?_ ?_|(first|refine z01 ?_ ?_|refine z00 ?_ ?_)<;>intro hc<;>(try simp only [push_cast] at hc))|((with_reducible first|refine eK hI ?_|refine eQ hI ?_|refine eG hI ?_))|((with_reducible first|refine eK hO ?_|refine eQ hO ?_|refine eG hO ?_))|((with_reducible first|refine eK hM ?_|refine eQ hM ?_|refine eG hM ?_))|((with_reducible first|refine eK hV ?_|refine eQ hV ?_|refine eG hV ?_))|((with_reducible first|refine cK hI ?_|refine cQ hI ?_|refine cG hI ?_);(simp (disch:=omega) only [push_cast,↓zz,seval,hP,h2]);(fail_if_success (with_reducible change False)))|((with_reducible first|refine cK hO ?_|refine cQ hO ?_|refine cG hO ?_);(simp (disch:=omega) only [push_cast,↓zz,seval,hP,h2]);(fail_if_success (with_reducible change False)))|((with_reducible first|refine cK hM ?_|refine cQ hM ?_|refine cG hM ?_);(simp (disch:=omega) only [push_cast,↓zz,seval,hP,h2]);(fail_if_success (with_reducible change False)))|((with_reducible first|refine cK hV ?_|refine cQ hV ?_|refine cG hV ?_);(simp (disch:=omega) only [push_cast,↓zz,seval,hP,h2]);(fail_if_success (with_reducible change False)))|omega|with_reducible intro _))
   all_goals
     rw [z43,if_neg (by simp [h2])]
     first
       | rw [if_pos (by omega)]
       | rw [if_neg (by omega)]
     (repeat' (first|(simp (disch:=omega) only [push_cast,↓zz,seval,z1i])|omega|(with_reducible refine And.intro ?_ ?_)))
 · (repeat' (first|(simp (disch:=omega) only [push_cast,↓zz,seval,hP,h2])|(with_reducible first|refine And.intro ?_ ?_|(first|refine z01 ?_ ?_|refine z00 ?_ ?_)<;>intro hc<;>(try simp only [push_cast] at hc))|((with_reducible first|refine eK hI ?_|refine eQ hI ?_|refine eG hI ?_))|((with_reducible first|refine cK hI ?_|refine cQ hI ?_|refine cG hI ?_);(simp (disch:=omega) only [push_cast,↓zz,seval,hP,h2]);(fail_if_success (with_reducible change False)))|omega|with_reducible intro _))
   all_goals
     rw [z43,if_pos h2]
     (repeat' (first|(simp (disch:=omega) only [push_cast,↓zz,seval,z1i])|omega|(with_reducible refine And.intro ?_ ?_)))
def zcn (t:Term) (i o:Int) (gs:List (List Span)):Bool:=z4h t i o gs.length && ((z43 t gs).2 && decide (z48 (z43 t gs).1 (domL o)=[]))
theorem zya (t:Term) (gs:List (List Span)):(z43 t gs).1.length ≤ 2147483649:=by
 unfold z43
 repeat' split
 all_goals first|(simp;done)|skip
 have h1:=(zjk t.outer (z42 t gs).1).2
 have h2:=y2n (imgL t.outer (z42 t gs).1) t.base
 simp only
 omega
theorem zjl (s:Int):(domL s).length ≤ 2:=by unfold domL;split<;>(try split)<;>simp
theorem zyb (t:Term) (i o:Int) (gs:List (List Span)) (ht:t.parts.length < 1000000000000) (hg:∀ g ∈ gs,g.length ≤ 1000000) (hl:gs.length ≤ 9223372036854775807) :
   PC Tryz.prog 95 [z1q t,.int .i64 i,.int .i64 o,z0b gs] (.bool (zcn t i o gs)):=by
 have hP:=z05 gs
 have hR:=zt9 t i o gs.length ht
 have hI:=zu3 t gs ht hg hl
 have hD:=z3i o
 have hW:=zem (z43 t gs).1 (domL o) (by have:=zya t gs;omega) (by have:=zjl o;omega)
 refine z0s zns ?_
 unfold zdy zcn
 (repeat' (first|(simp (disch:=omega) only [push_cast,↓zz,seval,hP])|(with_reducible first|refine And.intro ?_ ?_|(first|refine z01 ?_ ?_|refine z00 ?_ ?_)<;>intro hc<;>(try simp only [push_cast] at hc))|((with_reducible first|refine eK hR ?_|refine eQ hR ?_|refine eG hR ?_))|((with_reducible first|refine eK hI ?_|refine eQ hI ?_|refine eG hI ?_))|((with_reducible first|refine eK hD ?_|refine eQ hD ?_|refine eG hD ?_))|((with_reducible first|refine eK hW ?_|refine eQ hW ?_|refine eG hW ?_))|((with_reducible first|refine cK hR ?_|refine cQ hR ?_|refine cG hR ?_);(simp (disch:=omega) only [push_cast,↓zz,seval,hP]);(fail_if_success (with_reducible change False)))|((with_reducible first|refine cK hI ?_|refine cQ hI ?_|refine cG hI ?_);(simp (disch:=omega) only [push_cast,↓zz,seval,hP]);(fail_if_success (with_reducible change False)))|((with_reducible first|refine cK hD ?_|refine cQ hD ?_|refine cG hD ?_);(simp (disch:=omega) only [push_cast,↓zz,seval,hP]);(fail_if_success (with_reducible change False)))|((with_reducible first|refine cK hW ?_|refine cQ hW ?_|refine cG hW ?_);(simp (disch:=omega) only [push_cast,↓zz,seval,hP]);(fail_if_success (with_reducible change False)))|omega|with_reducible intro _))
 all_goals simp only [*,Bool.true_and,Bool.false_and]
def zch:Int→List Span→Bool
 | _,[]=>true
 | last,s :: l=>decide (s.lo ≤ s.hi∧-1073741824 ≤ s.lo∧s.hi ≤ 1073741824∧last + 1 < s.lo) && zch s.hi l
def zev (g:List Span):Bool:=zch (-1073741826) g
theorem zu4 (g:List Span) (hl:g.length ≤ 9223372036854775807):PC Tryz.prog 93 [z03 g] (.bool (zev g)):=by
 refine z0s zlq ?_
 unfold zc4
 (repeat' (first|(simp (disch:=omega) only [push_cast,↓zz,seval])|(with_reducible first|refine And.intro ?_ ?_|(first|refine z01 ?_ ?_|refine z00 ?_ ?_)<;>intro hc<;>(try simp only [push_cast] at hc))|omega|with_reducible intro _))
 refine z0f (z0g (fun (s:Nat × Int)=>s.1 ≤ g.length∧zev g=zch s.2 (g.drop s.1)∧-1073741826 ≤ s.2∧s.2 ≤ 1073741824) (fun s=>g.length - s.1)
   (fun s=>[(3,.int .i64 s.2),(6,z03 g),(7,.int .i64 g.length),(8,.int .i64 s.1)]) (fun s=>[]) (fun _ _=>[]) (0,-1073741826) ⟨by simp,rfl,by simp,by simp⟩ ?_ ?_)
 · (repeat' (first|(simp (disch:=omega) only [push_cast,↓zz,seval])|(with_reducible first|refine And.intro ?_ ?_|(first|refine z01 ?_ ?_|refine z00 ?_ ?_)<;>intro hc<;>(try simp only [push_cast] at hc))|omega|with_reducible intro _))
 rintro ⟨k,last⟩ ⟨h1,h2,h3,h4⟩
 simp only at h1 h2 h3 h4
 rcases Nat.lt_or_ge k g.length with hk|hk
 · rw [drop_at hk,zch] at h2
   generalize hxe:nth g k=x at *
   have hw:IntKind.i64.wrap (last + 1)=last + 1:=IntWalk.i64_in _ (by omega)
   refine W_T ?_
   (repeat' (first|(simp (disch:=omega) only [push_cast,↓zz,seval,hw,hxe])|(with_reducible first|refine And.intro ?_ ?_|(first|refine z01 ?_ ?_|refine z00 ?_ ?_)<;>intro hc<;>(try simp only [push_cast] at hc))|omega|with_reducible intro _))
   all_goals first
     | (rw [h2,decide_eq_false (by omega),Bool.false_and];done)
     | exact ⟨(k + 1,x.hi),⟨rfl,by push_cast⟩,⟨by simp only;omega,by rw [h2,decide_eq_true (by omega),Bool.true_and],by simp only;omega,by simp only;omega⟩,by simp only;omega⟩
 · rw [List.drop_of_length_le hk,zch] at h2
   refine W_T ?_
   (repeat' (first|(simp (disch:=omega) only [push_cast,↓zz,seval,h2])|(with_reducible first|refine And.intro ?_ ?_|(first|refine z01 ?_ ?_|refine z00 ?_ ?_)<;>intro hc<;>(try simp only [push_cast] at hc))|omega|with_reducible intro _))
   all_goals trace_state
def z7q (i:Int) (g:List Span):Bool:=!decide ((g.length:Int)=0) && (decide ((g.length:Int) ≤ 64) && (zev g && decide (z48 g (domL i)=[])))
def z2k (i:Int) (gs:List (List Span)):Bool:=decide ((gs.length:Int) ≤ 4) && gs.all (z7q i)
theorem zew (i:Int) (gs:List (List Span)):PC Tryz.prog 75 [.int .i64 i,z0b gs] (.bool (z2k i gs)):=by
 have hP:=z05 gs
 have hD:=z3i i
 have hdl:=zjl i
 refine z0s zim ?_
 unfold z9z
 by_cases h4:4 < gs.length
 · rw [z2k,decide_eq_false (by omega),Bool.false_and]
   (repeat' (first|(simp (disch:=omega) only [push_cast,↓zz,seval])|(with_reducible first|refine And.intro ?_ ?_|(first|refine z01 ?_ ?_|refine z00 ?_ ?_)<;>intro hc<;>(try simp only [push_cast] at hc))|omega|with_reducible intro _))
 rw [z2k,decide_eq_true (by omega),Bool.true_and]
 (repeat' (first|(simp (disch:=omega) only [push_cast,↓zz,seval])|(with_reducible first|refine And.intro ?_ ?_|(first|refine z01 ?_ ?_|refine z00 ?_ ?_)<;>intro hc<;>(try simp only [push_cast] at hc))|((with_reducible first|refine eK hD ?_|refine eQ hD ?_|refine eG hD ?_))|((with_reducible first|refine cK hD ?_|refine cQ hD ?_|refine cG hD ?_);(simp (disch:=omega) only [push_cast,↓zz,seval]);(fail_if_success (with_reducible change False)))|omega|with_reducible intro _))
 refine z0f (z0g (fun (k:Nat)=>k ≤ gs.length∧gs.all (z7q i)=(gs.drop k).all (z7q i)) (fun k=>gs.length - k)
   (fun k=>[(5,z03 (domL i)),(13,z0b gs),(14,.int .i64 gs.length),(15,.int .i64 k)]) (fun s=>[]) (fun _ _=>[]) 0 ⟨by simp,rfl⟩ ?_ ?_)
 · (repeat' (first|(simp (disch:=omega) only [push_cast,↓zz,seval,hP])|(with_reducible first|refine And.intro ?_ ?_|(first|refine z01 ?_ ?_|refine z00 ?_ ?_)<;>intro hc<;>(try simp only [push_cast] at hc))|omega|with_reducible intro _))
 rintro k ⟨h1,h2⟩
 rcases Nat.lt_or_ge k gs.length with hk|hk
 · rw [drop_at hk,List.all_cons,z7q] at h2
   generalize hge:nth gs k=g at *
   refine W_T ?_
   by_cases hl:(g.length:Int)=0
   · rw [decide_eq_true hl,Bool.not_true,Bool.false_and,Bool.false_and] at h2
     (repeat' (first|(simp (disch:=omega) only [push_cast,↓zz,seval,hP,hge,h2])|(with_reducible first|refine And.intro ?_ ?_|(first|refine z01 ?_ ?_|refine z00 ?_ ?_)<;>intro hc<;>(try simp only [push_cast] at hc))|omega|with_reducible intro _))
   by_cases hl2:(g.length:Int) ≤ 64
   · rw [decide_eq_false hl,decide_eq_true hl2,Bool.not_false,Bool.true_and,Bool.true_and] at h2
     have hW:=zem g (domL i) (by omega) (by omega)
     have hC:=zu4 g (by omega)
     (repeat' (first|(simp (disch:=omega) only [push_cast,↓zz,seval,hP,hge])|(with_reducible first|refine And.intro ?_ ?_|(first|refine z01 ?_ ?_|refine z00 ?_ ?_)<;>intro hc<;>(try simp only [push_cast] at hc))|((with_reducible first|refine eK hC ?_|refine eQ hC ?_|refine eG hC ?_))|((with_reducible first|refine eK hW ?_|refine eQ hW ?_|refine eG hW ?_))|((with_reducible first|refine cK hC ?_|refine cQ hC ?_|refine cG hC ?_);(simp (disch:=omega) only [push_cast,↓zz,seval,hP,hge]);(fail_if_success (with_reducible change False)))|((with_reducible first|refine cK hW ?_|refine cQ hW ?_|refine cG hW ?_);(simp (disch:=omega) only [push_cast,↓zz,seval,hP,hge]);(fail_if_success (with_reducible change False)))|omega|with_reducible intro _))
     all_goals first
       | (rw [h2];simp [*];done)
       | exact ⟨k + 1,by push_cast,⟨by omega,by rw [h2];simp [*]⟩,by omega⟩
   · rw [decide_eq_false hl2,Bool.false_and,Bool.and_false,Bool.false_and] at h2
     (repeat' (first|(simp (disch:=omega) only [push_cast,↓zz,seval,hP,hge,h2])|(with_reducible first|refine And.intro ?_ ?_|(first|refine z01 ?_ ?_|refine z00 ?_ ?_)<;>intro hc<;>(try simp only [push_cast] at hc))|omega|with_reducible intro _))
 · rw [List.drop_of_length_le hk,List.all_nil] at h2
   refine W_T ?_
   (repeat' (first|(simp (disch:=omega) only [push_cast,↓zz,seval,hP,h2])|(with_reducible first|refine And.intro ?_ ?_|(first|refine z01 ?_ ?_|refine z00 ?_ ?_)<;>intro hc<;>(try simp only [push_cast] at hc))|omega|with_reducible intro _))
   all_goals trace_state
def z5o (d:Desc) (s:Int):Bool:=decide (0 ≤ s) && decide (s < d.states)
theorem z8c (d:Desc) (s:Int):PC Tryz.prog 74 [z1j d,.int .i64 s] (.bool (z5o d s)):=by
 refine z0s zlh ?_
 unfold zbv z5o
 (repeat' (first|(simp (disch:=omega) only [push_cast,↓zz,seval])|(with_reducible first|refine And.intro ?_ ?_|(first|refine z01 ?_ ?_|refine z00 ?_ ?_)<;>intro hc<;>(try simp only [push_cast] at hc))|omega|with_reducible intro _))
 all_goals simp only [*,decide_true,decide_false,Bool.true_and,Bool.false_and]
def zex (d:Desc):Bool:=decide (0 < ((domL d.in_).length:Int)) && (decide (0 < ((domL d.out).length:Int)) && (decide (1 ≤ d.states) && (decide (d.states ≤ 1024) && (z5o d d.start && (decide ((d.rules.length:Int) ≤ 4096) && decide ((d.finals.length:Int) ≤ 4096))))))
theorem zyc (d:Desc):PC Tryz.prog 72 [z1j d] (.bool (zex d)):=by
 have h1:=z3i d.in_
 have h2:=z3i d.out
 have h3:=z8c d d.start
 refine z0s znq ?_
 unfold zdv zex
 (repeat' (first|(simp (disch:=omega) only [push_cast,↓zz,seval])|(with_reducible first|refine And.intro ?_ ?_|(first|refine z01 ?_ ?_|refine z00 ?_ ?_)<;>intro hc<;>(try simp only [push_cast] at hc))|((with_reducible first|refine eK h1 ?_|refine eQ h1 ?_|refine eG h1 ?_))|((with_reducible first|refine eK h2 ?_|refine eQ h2 ?_|refine eG h2 ?_))|((with_reducible first|refine eK h3 ?_|refine eQ h3 ?_|refine eG h3 ?_))|((with_reducible first|refine cK h1 ?_|refine cQ h1 ?_|refine cG h1 ?_);(simp (disch:=omega) only [push_cast,↓zz,seval]);(fail_if_success (with_reducible change False)))|((with_reducible first|refine cK h2 ?_|refine cQ h2 ?_|refine cG h2 ?_);(simp (disch:=omega) only [push_cast,↓zz,seval]);(fail_if_success (with_reducible change False)))|((with_reducible first|refine cK h3 ?_|refine cQ h3 ?_|refine cG h3 ?_);(simp (disch:=omega) only [push_cast,↓zz,seval]);(fail_if_success (with_reducible change False)))|omega|with_reducible intro _))
 all_goals simp only [*,decide_true,decide_false,Bool.true_and,Bool.false_and]
 all_goals trace_state
def z2p (d:Desc) (out:List Term) (gs:List (List Span)):Bool:=decide ((out.length:Int) ≤ 64) && out.all fun t=>zcn t d.in_ d.out gs
theorem zey (d:Desc) (out:List Term) (gs:List (List Span)) (ho:∀ t ∈ out,t.parts.length < 1000000000000) (hg:∀ g ∈ gs,g.length ≤ 1000000) (hl:gs.length ≤ 9223372036854775807) :
   PC Tryz.prog 76 [z1j d,z3n out,z0b gs] (.bool (z2p d out gs)):=by
 have hP:=z05 gs
 have hT:=z0w out
 refine z0s zin ?_
 unfold za0
 by_cases h4:64 < out.length
 · rw [z2p,decide_eq_false (by omega),Bool.false_and]
   (repeat' (first|(simp (disch:=omega) only [push_cast,↓zz,seval])|(with_reducible first|refine And.intro ?_ ?_|(first|refine z01 ?_ ?_|refine z00 ?_ ?_)<;>intro hc<;>(try simp only [push_cast] at hc))|omega|with_reducible intro _))
 rw [z2p,decide_eq_true (by omega),Bool.true_and]
 (repeat' (first|(simp (disch:=omega) only [push_cast,↓zz,seval])|(with_reducible first|refine And.intro ?_ ?_|(first|refine z01 ?_ ?_|refine z00 ?_ ?_)<;>intro hc<;>(try simp only [push_cast] at hc))|omega|with_reducible intro _))
 refine z0f (z0g (fun (k:Nat)=>k ≤ out.length∧(out.all fun t=>zcn t d.in_ d.out gs)=(out.drop k).all fun t=>zcn t d.in_ d.out gs) (fun k=>out.length - k)
   (fun k=>[(2,z0b gs),(3,.ptr 0 1 0 0),(12,z3n out),(13,.int .i64 out.length),(14,.int .i64 k)]) (fun s=>[⟨6,1,true,[z1j d]⟩]) (fun env _=>[z0k 1 (env 3)]) 0 ⟨by simp,rfl⟩ ?_ ?_)
 · (repeat' (first|(simp (disch:=omega) only [push_cast,↓zz,seval,hP,hT])|(with_reducible first|refine And.intro ?_ ?_|(first|refine z01 ?_ ?_|refine z00 ?_ ?_)<;>intro hc<;>(try simp only [push_cast] at hc))|omega|with_reducible intro _))
 rintro k ⟨h1,h2⟩
 rcases Nat.lt_or_ge k out.length with hk|hk
 · rw [drop_at hk,List.all_cons] at h2
   have hF:=zyb (nth out k) d.in_ d.out gs (ho _ (z0i hk)) hg hl
   refine W_T ?_
   (repeat' (first|(simp (disch:=omega) only [push_cast,↓zz,seval,hP,hT])|(with_reducible first|refine And.intro ?_ ?_|(first|refine z01 ?_ ?_|refine z00 ?_ ?_)<;>intro hc<;>(try simp only [push_cast] at hc))|((with_reducible first|refine eK hF ?_|refine eQ hF ?_|refine eG hF ?_))|((with_reducible first|refine cK hF ?_|refine cQ hF ?_|refine cG hF ?_);(simp (disch:=omega) only [push_cast,↓zz,seval,hP,hT]);(fail_if_success (with_reducible change False)))|omega|with_reducible intro _))
   all_goals first
     | (rw [h2];simp [*];done)
     | exact ⟨k + 1,by push_cast,⟨by omega,by rw [h2];simp [*]⟩,by omega⟩
 · rw [List.drop_of_length_le hk,List.all_nil] at h2
   refine W_T ?_
   (repeat' (first|(simp (disch:=omega) only [push_cast,↓zz,seval,hP,hT,h2])|(with_reducible first|refine And.intro ?_ ?_|(first|refine z01 ?_ ?_|refine z00 ?_ ?_)<;>intro hc<;>(try simp only [push_cast] at hc))|omega|with_reducible intro _))
   all_goals trace_state
def eatB (n e:Int):Bool:=!decide (e < min n 1) && !decide (n < e)
def z4f (d:Desc) (r:Rule):Bool:=z5o d r.from_ && (z5o d r.to_ && (z2k d.in_ r.guards && (eatB r.guards.length r.eat && z2p d r.out r.guards)))
theorem z4i {i:Int} {gs:List (List Span)} (h:z2k i gs=true):gs.length ≤ 4∧∀ g ∈ gs,g.length ≤ 64:=by
 simp only [z2k,Bool.and_eq_true,decide_eq_true_eq] at h
 refine ⟨by omega,fun g hg=>?_⟩
 have:=List.all_eq_true.1 h.2 g hg
 simp only [z7q,Bool.and_eq_true,decide_eq_true_eq] at this
 omega
theorem zyd (d:Desc) (r:Rule) (ho:∀ t ∈ r.out,t.parts.length < 1000000000000):PC Tryz.prog 73 [z1j d,z8n r] (.bool (z4f d r)):=by
 have h1:=z8c d r.from_
 have h2:=z8c d r.to_
 have h3:=zew d.in_ r.guards
 have hP:=z05 r.guards
 have hT:=z0w r.out
 refine z0s znr ?_
 unfold zdw z4f eatB
 cases hg:z2k d.in_ r.guards with
 | false =>
   rw [hg] at h3
   (repeat' (first|(simp (disch:=omega) only [push_cast,↓zz,seval,hP,hT])|(with_reducible first|refine And.intro ?_ ?_|(first|refine z01 ?_ ?_|refine z00 ?_ ?_)<;>intro hc<;>(try simp only [push_cast] at hc))|((with_reducible first|refine eK h1 ?_|refine eQ h1 ?_|refine eG h1 ?_))|((with_reducible first|refine eK h2 ?_|refine eQ h2 ?_|refine eG h2 ?_))|((with_reducible first|refine eK h3 ?_|refine eQ h3 ?_|refine eG h3 ?_))|((with_reducible first|refine cK h1 ?_|refine cQ h1 ?_|refine cG h1 ?_);(simp (disch:=omega) only [push_cast,↓zz,seval,hP,hT]);(fail_if_success (with_reducible change False)))|((with_reducible first|refine cK h2 ?_|refine cQ h2 ?_|refine cG h2 ?_);(simp (disch:=omega) only [push_cast,↓zz,seval,hP,hT]);(fail_if_success (with_reducible change False)))|((with_reducible first|refine cK h3 ?_|refine cQ h3 ?_|refine cG h3 ?_);(simp (disch:=omega) only [push_cast,↓zz,seval,hP,hT]);(fail_if_success (with_reducible change False)))|omega|with_reducible intro _))
   all_goals simp only [*,decide_true,decide_false,Bool.true_and,Bool.false_and,Bool.and_false]
 | true =>
   rw [hg] at h3
   obtain ⟨g1,g2⟩:=z4i hg
   have h4:=zey d r.out r.guards ho (fun g hg=>by have:=g2 g hg;omega) (by omega)
   (repeat' (first|(simp (disch:=omega) only [push_cast,↓zz,seval,hP,hT])|(with_reducible first|refine And.intro ?_ ?_|(first|refine z01 ?_ ?_|refine z00 ?_ ?_)<;>intro hc<;>(try simp only [push_cast] at hc))|((with_reducible first|refine eK h1 ?_|refine eQ h1 ?_|refine eG h1 ?_))|((with_reducible first|refine eK h2 ?_|refine eQ h2 ?_|refine eG h2 ?_))|((with_reducible first|refine eK h3 ?_|refine eQ h3 ?_|refine eG h3 ?_))|((with_reducible first|refine eK h4 ?_|refine eQ h4 ?_|refine eG h4 ?_))|((with_reducible first|refine cK h1 ?_|refine cQ h1 ?_|refine cG h1 ?_);(simp (disch:=omega) only [push_cast,↓zz,seval,hP,hT]);(fail_if_success (with_reducible change False)))|((with_reducible first|refine cK h2 ?_|refine cQ h2 ?_|refine cG h2 ?_);(simp (disch:=omega) only [push_cast,↓zz,seval,hP,hT]);(fail_if_success (with_reducible change False)))|((with_reducible first|refine cK h3 ?_|refine cQ h3 ?_|refine cG h3 ?_);(simp (disch:=omega) only [push_cast,↓zz,seval,hP,hT]);(fail_if_success (with_reducible change False)))|((with_reducible first|refine cK h4 ?_|refine cQ h4 ?_|refine cG h4 ?_);(simp (disch:=omega) only [push_cast,↓zz,seval,hP,hT]);(fail_if_success (with_reducible change False)))|omega|with_reducible intro _))
   all_goals simp only [*,decide_true,decide_false,Bool.true_and,Bool.false_and,Bool.and_false,Bool.not_true,Bool.not_false,Bool.and_true]
   all_goals trace_state
abbrev zot (v:Nat) (l:List Int):Grp:=⟨1,v,l.isEmpty,l.map (AV.int .i64)⟩
def famF (n:Nat) (V:Nat→Nat) (D:Nat→List Int):List Grp:=(List.range n).map fun i=>zot (V i) (D i)
def famT (n:Nat) (V:Nat→Nat) (D:Nat→List Int):List AV:=(List.range n).map fun i=>AV.ref (i + 3) (V i) 0 (D i).length
def famI (n:Nat) (f:Nat→Int):List AV:=(List.range n).map fun i=>AV.int .i64 (f i)
theorem z5d {α:Type} {n i:Nat} {f:Nat→α} {x:α} (h:i < n):((List.range n).map f).set i x=(List.range n).map fun j=>if j=i then x else f j:=by
 refine List.ext_getElem (by simp) fun j h1 h2=>?_
 simp only [List.length_set,List.length_map,List.length_range] at h1
 simp only [List.getElem_set,List.getElem_map,List.getElem_range]
 by_cases e:i=j
 · rw [if_pos e,if_pos e.symm]
 · rw [if_neg e,if_neg fun h=>e h.symm]
theorem z37 {α:Type} {n i:Nat} {f:Nat→α} {z:α} (h:i < n):((List.range n).map f).getD i z=f i:=by simp [List.getD,h]
theorem zez {ks:List Nat} {G:Grp}:∀ {l:List Grp} {p i:Nat},p + i ∈ ks→z2c p ks l (l.set i G)
 | [],p,i,h=>trivial
 | a :: l,p,0,h=>⟨.inl h,sameBut_refl⟩
 | a :: l,p,i + 1,h=>⟨.inr rfl,zez (by rwa [show p + 1 + i=p + (i + 1) by omega])⟩
where sameBut_refl {ks:List Nat}:∀ {l:List Grp} {p:Nat},z2c p ks l l
 | [],p=>trivial
 | a :: l,p=>⟨.inr rfl,sameBut_refl⟩
theorem zre:∀ (l:List Grp) (G G':Grp),setQ (l ++ [G]) l.length G'=some (l ++ [G'])
 | [],_,_=>rfl
 | a :: l,G,G'=>by rw [List.cons_append,List.length_cons,setQ,zre l G G'];rfl
theorem zrf:∀ (l:List Grp) (G G':Grp) {i:Nat},i < l.length→setQ (l ++ [G]) i G'=some (l.set i G' ++ [G])
 | [],_,_,i,h=>by simp at h
 | a :: l,G,G',0,h=>rfl
 | a :: l,G,G',i + 1,h=>by rw [List.cons_append,setQ,zrf l G G' (by simpa using h)];rfl
def setV (V:Nat→Nat) (i v:Nat) (j:Nat):Nat:=if j=i then v else V j
structure yc1 (d:Desc):Prop where
 st:1 ≤ d.states∧d.states ≤ 1024
 len:d.rules.length ≤ 4096
 rul:∀ r ∈ d.rules,(0 ≤ r.from_∧r.from_ < d.states)∧0 ≤ r.to_∧r.to_ < d.states
def zf0 (d:Desc) (k:Nat):Env:=z3x [(1,.ptr 0 1 0 0),(3,.ref 1 1 0 d.states.toNat),(4,.ref 2 1 0 d.states.toNat),(21,z3u d.rules),(22,.int .i64 d.rules.length),(23,.int .i64 k)]
def z2u (d:Desc) (k:Nat) (V:Nat→Nat):z02:=Abs.hl (⟨6,1,true,[z1j d]⟩ :: ⟨1,1,true,famT d.states.toNat V (toD (d.rules.take k))⟩ :: ⟨1,1,true,famI d.states.toNat (inD (d.rules.take k))⟩ :: famF d.states.toNat V (toD (d.rules.take k)))
def cycL (d:Desc) (k:Nat) (V:Nat→Nat):List Grp:=⟨6,1,true,[z1j d]⟩ :: ⟨1,1,true,famT d.states.toNat V (toD (d.rules.take k))⟩ :: ⟨1,1,true,famI d.states.toNat (inD (d.rules.take k))⟩ :: famF d.states.toNat V (toD (d.rules.take k))
theorem zh9 (d:Desc) (k:Nat) (V:Nat→Nat):z2u d k V=Abs.hl (cycL d k V):=rfl
theorem zjm (d:Desc) (k:Nat) (V:Nat→Nat):(cycL d k V).length=d.states.toNat + 3:=by simp [cycL,famF]
theorem zbe (d:Desc):(z1j d).pure=true:=by simp [z1j,AV.pure,z0p,z0v,z0t]
theorem zou (d:Desc) (k:Nat) (V:Nat→Nat):∀ G ∈ cycL d k V,ltL (cycL d k V).length G.xs:=fun G hG=>by
 rw [zjm]
 simp only [cycL,List.mem_cons] at hG
 rcases hG with rfl|rfl|rfl|hG
 · exact z4z _ _ (by simp [z0p,zbe])
 · have key:∀ (l:List Nat),(∀ i ∈ l,i < d.states.toNat)→ltL (d.states.toNat + 3) (l.map fun i=>AV.ref (i + 3) (V i) 0 (toD (d.rules.take k) i).length):=fun l=>by
     induction l with
     | nil=>exact fun _=>trivial
     | cons i l ih =>
       intro h
       exact ⟨by have:=h i (by simp);show i + 3 < _;omega,ih fun j hj=>h j (by simp [hj])⟩
   exact key _ fun i hi=>by simpa using hi
 · exact z4z _ _ (z2w.2 fun x hx=>by
     obtain ⟨i,_,rfl⟩:=List.mem_map.1 hx
     rfl)
 · obtain ⟨i,_,rfl⟩:=List.mem_map.1 hG
   exact z4z _ _ (z4k .i64 _)
theorem zye {d:Desc} {k:Nat} {V:Nat→Nat} {env:Env} {l gar:List Grp} (hn:1 ≤ d.states) (hl':l=cycL d k V ++ gar)
   (h1:env 1=.ptr 0 1 0 0) (h3:env 3=.ref 1 1 0 d.states.toNat) (h4:env 4=.ref 2 1 0 d.states.toNat) (h21:env 21=z3u d.rules) (h22:env 22=.int .i64 d.rules.length) (h23:env 23=.int .i64 k) :
   Ent 105 0 env (Abs.hl l) (zf0 d k) (z2u d k V):=by
 rw [hl',zh9]
 refine (zie [(1,.ptr 0 1 0 0),(3,.ref 1 1 0 d.states.toNat),(4,.ref 2 1 0 d.states.toNat),(21,z3u d.rules),(22,.int .i64 d.rules.length),(23,.int .i64 k)] (fun p hp=>?_)).trans (zx9 (by omega) (zou d k V) fun i _=>?_)
 · simp only [List.mem_cons,List.not_mem_nil,or_false] at hp
   rcases hp with rfl|rfl|rfl|rfl|rfl|rfl<;>assumption
 · rw [zjm]
   have hr:ltV (d.states.toNat + 3) (z3u d.rules):=zwx _ _ (by simp [z3u,AV.pure,z0v])
   simp only [z3x]
   repeat' split
   all_goals first
     | exact hr
     | trivial
     | (show _ < _;omega)
theorem y2y {n i:Nat} {V:Nat→Nat} {D:Nat→List Int} {x:Int} (h:i < n):(famT n V D).set i (.ref (i + 3) (V i + 1) 0 ((D i).length + 1))=famT n (setV V i (V i + 1)) fun p=>if p=i then D i ++ [x] else D p:=by
 rw [famT,z5d h,famT]
 refine List.map_congr_left fun j _=>?_
 by_cases e:j=i
 · subst e;simp [setV]
 · simp [setV,e]
theorem y2z {n i:Nat} {V:Nat→Nat} {D:Nat→List Int} {x:Int} (h:i < n):(famF n V D).set i ⟨1,V i + 1,false,(D i).map (AV.int .i64) ++ [.int .i64 x]⟩=famF n (setV V i (V i + 1)) fun p=>if p=i then D i ++ [x] else D p:=by
 rw [famF,z5d h,famF]
 refine List.map_congr_left fun j _=>?_
 by_cases e:j=i
 · subst e;simp [setV,zot]
 · simp [setV,e]
theorem zrg {n j:Nat} {f:Nat→Int} {x:Int} (h:j < n):(famI n f).set j (.int .i64 x)=famI n fun p=>if p=j then x else f p:=by
 rw [famI,z5d h,famI]
 refine List.map_congr_left fun p _=>?_
 by_cases e:p=j
 · subst e;simp
 · simp [e]
theorem y30 {l:List Rule} {k i:Nat} (hk:k < l.length) (hi:(nth l k).from_=i) (he:z3z (nth l k)=true):toD (l.take (k + 1))=fun p=>if p=i then toD (l.take k) i ++ [(nth l k).to_] else toD (l.take k) p:=by
 funext p
 rw [take_at hk]
 simp only [toD,List.filter_append,List.map_append,List.filter_cons,List.filter_nil,he,Bool.true_and,hi,decide_eq_true_eq]
 by_cases e:p=i
 · subst e;simp
 · rw [if_neg (by omega),if_neg e];simp
theorem y31 {l:List Rule} {k j:Nat} (hk:k < l.length) (hj:(nth l k).to_=j) (he:z3z (nth l k)=true):inD (l.take (k + 1))=fun p=>if p=j then inD (l.take k) j + 1 else inD (l.take k) p:=by
 funext p
 rw [take_at hk]
 simp only [inD,List.filter_append,List.length_append,List.filter_cons,List.filter_nil,he,Bool.true_and,hj,decide_eq_true_eq]
 by_cases e:p=j
 · subst e;simp
 · rw [if_neg (by omega),if_neg e];simp
theorem y32 {l:List Rule} {k:Nat} (hk:k < l.length) (he:z3z (nth l k)=false):toD (l.take (k + 1))=toD (l.take k)∧inD (l.take (k + 1))=inD (l.take k):=by
 rw [take_at hk]
 refine ⟨?_,?_⟩<;>funext p<;>simp [toD,inD,he]
theorem zyf (l:List Rule) (j:Nat):0 ≤ inD l j∧inD l j ≤ l.length:=by
 have:=List.length_filter_le (fun r=>z3z r && decide (r.to_=j)) l
 simp only [inD];omega
theorem y48 (l:List Rule) (j:Nat):(toD l j).length ≤ l.length:=by
 have:=List.length_filter_le (fun r=>z3z r && decide (r.from_=j)) l
 simp only [toD,List.length_map];omega
theorem zf1 (l0:List Grp):∀ l:List Grp,z7c l0 l l
 | []=>trivial
 | G :: l=>⟨⟨rfl,rfl,id,z0m _ _⟩,zf1 l0 l⟩
theorem y33 (n:Nat):famF n (fun _=>1) (toD [])=(List.replicate n 1).map z8m:=by
 rw [List.map_replicate]
 refine List.ext_getElem (by simp [famF]) fun i h1 h2=>?_
 simp only [famF,List.getElem_map,List.getElem_range,List.getElem_replicate]
 rfl
theorem y34 (n:Nat):famI n (inD [])=List.replicate n (.int .i64 0):=by
 refine List.ext_getElem (by simp [famI]) fun i h1 h2=>?_
 simp [famI,inD]
theorem zyg {l:List Grp} {n:Nat} (h:∀ i,i < n→l.getD (i + 3) default=z8m 1∧i + 3 < l.length):leSL l (List.replicate n .nilS) (famT n (fun _=>1) (toD [])):=by
 have key:∀ idx:List Nat,(∀ i ∈ idx,i < n)→leSL l (List.replicate idx.length .nilS) (idx.map fun i=>AV.ref (i + 3) 1 0 (toD [] i).length):=fun idx=>by
   induction idx with
   | nil=>exact fun _=>rfl
   | cons i idx ih =>
     intro hi
     obtain ⟨h1,h2⟩:=h i (hi i (by simp))
     refine ⟨?_,ih fun j hj=>hi j (by simp [hj])⟩
     show 0=0∧(toD [] i).length=0∧(l.getD (i + 3) default).ver=1∧0 < (l.getD (i + 3) default).w∧(l.getD (i + 3) default).xs=[]∧(l.getD (i + 3) default).exact=true∧i + 3 < l.length
     rw [h1]
     exact ⟨rfl,rfl,rfl,by decide,rfl,rfl,h2⟩
 have:=key (List.range n) fun i hi=>by simpa using hi
 rwa [List.length_range] at this
theorem zyh {d:Desc} {env:Env} (h1:env 1=.ptr 0 1 0 0) (h3:env 3=.ref 1 1 0 d.states.toNat) (h4:env 4=.ref 2 1 0 d.states.toNat) (h21:env 21=z3u d.rules) (h22:env 22=.int .i64 d.rules.length) (h23:env 23=.int .i64 0) :
   Ent 105 0 env (Abs.hl [⟨6,1,true,[z1j d]⟩,⟨1,1,true,List.replicate d.states.toNat .nilS⟩,⟨1,1,true,List.replicate d.states.toNat (.int .i64 0)⟩]) (zf0 d 0) (z2u d 0 fun _=>1):=by
 refine (zie [(1,.ptr 0 1 0 0),(3,.ref 1 1 0 d.states.toNat),(4,.ref 2 1 0 d.states.toNat),(21,z3u d.rules),(22,.int .i64 d.rules.length),(23,.int .i64 0)] (fun p hp=>?_)).trans
   ((y1s (List.replicate d.states.toNat 1) (fun w hw=>by have:=(List.mem_replicate.1 hw).2;omega)).trans (ybp ?_ fun i _=>zib _ _))
 · simp only [List.mem_cons,List.not_mem_nil,or_false] at hp
   rcases hp with rfl|rfl|rfl|rfl|rfl|rfl<;>assumption
 · rw [List.take_zero,y33,y34]
   refine ⟨⟨rfl,rfl,id,z0m _ _⟩,⟨rfl,rfl,id,zyg fun i hi=>?_⟩,⟨rfl,rfl,id,z0m _ _⟩,zf1 _ _⟩
   refine ⟨?_,by simp;omega⟩
   rw [List.map_replicate]
   simp [List.getD,hi]
def zyi (n:Nat) (D:Nat→List Int):AV:=.lst 1 ((List.range n).map fun i=>z4p (D i))
theorem zyj {n b:Nat} {env:Env} {H H':z02} (hn:H'.n=H.n) (h:∀ g,g < H.n→H'.at_ g=H.at_ g):Ent n b env H env H':=fun S val hb hS hv=>⟨S,rfl,.refl hb,hS.congr hn h,hv⟩
def zan (n:Nat):List Nat:=1 :: (List.range n).map (· + 3)
theorem zmm {n i:Nat} (h:i < n):i + 3 ∈ zan n:=List.mem_cons.2 (.inr (List.mem_map.2 ⟨i,List.mem_range.2 h,rfl⟩))
theorem y49 (d:Desc) (k:Nat) (V:Nat→Nat) {i:Nat} (hi:i < d.states.toNat):(z2u d k V).at_ (i + 3)=zot (V i) (toD (d.rules.take k) i):=by
 rw [z2u,z3a]
 simp only [List.getD_cons_succ]
 exact z37 hi
theorem y8b (d:Desc) (k:Nat) (V:Nat→Nat):z2m 2 ((z2u d k V).only (zan d.states.toNat)) (.ref 1 1 0 d.states.toNat)∧frzV 2 ((z2u d k V).only (zan d.states.toNat)) (.ref 1 1 0 d.states.toNat)=zyi d.states.toNat (toD (d.rules.take k)):=by
 have hat1:((z2u d k V).only (zan d.states.toNat)).at_ 1=⟨1,1,true,famT d.states.toNat V (toD (d.rules.take k))⟩:=by
   show (if 1 ∈ zan d.states.toNat then (z2u d k V).at_ 1 else ((z2u d k V).at_ 1).dead)=_
   rw [if_pos (by simp [zan])]
   rfl
 have hat:∀ i,i < d.states.toNat→((z2u d k V).only (zan d.states.toNat)).at_ (i + 3)=zot (V i) (toD (d.rules.take k) i):=fun i hi=>by
   show (if i + 3 ∈ zan d.states.toNat then (z2u d k V).at_ (i + 3) else ((z2u d k V).at_ (i + 3)).dead)=_
   rw [if_pos (zmm hi)]
   exact y49 d k V hi
 have htl:(((famT d.states.toNat V (toD (d.rules.take k))).drop 0).take d.states.toNat)=famT d.states.toNat V (toD (d.rules.take k)):=by
   rw [List.drop_zero];exact List.take_of_length_le (by simp [famT])
 constructor
 · refine ⟨by rw [hat1],by rw [hat1];exact Nat.one_pos,by rw [hat1];simp [famT],fun y hy=>?_⟩
   rw [hat1,htl] at hy
   obtain ⟨i,hi,rfl⟩:=List.mem_map.1 hy
   have hi':i < d.states.toNat:=by simpa using hi
   refine ⟨by rw [hat i hi'],by rw [hat i hi'];exact Nat.one_pos,by rw [hat i hi'];simp,fun z hz=>?_⟩
   rw [hat i hi'] at hz
   obtain ⟨u,_,rfl⟩:=List.mem_map.1 (List.mem_of_mem_drop (List.mem_of_mem_take hz))
   rfl
 · show AV.lst _ _=_
   rw [hat1,htl,zyi,famT,List.map_map]
   congr 1
   refine List.map_congr_left fun i hi=>?_
   have hi':i < d.states.toNat:=by simpa using hi
   show AV.lst _ _=_
   rw [hat i hi']
   have e:(((zot (V i) (toD (d.rules.take k) i)).xs.drop 0).take (toD (d.rules.take k) i).length).map (frzV 0 ((z2u d k V).only (zan d.states.toNat)))=(toD (d.rules.take k) i).map (AV.int .i64):=by
     rw [List.drop_zero,List.take_of_length_le (by simp [zot])]
     refine (List.map_congr_left fun x hx=>?_).trans (List.map_id _)
     obtain ⟨u,_,rfl⟩:=List.mem_map.1 hx
     rfl
   rw [e]
def z8d (d:Desc) (k:Nat):List (Nat × AV):=[(1,.ptr 0 1 0 0),(3,zyi d.states.toNat (toD (d.rules.take k))),(4,.ref 2 1 0 d.states.toNat),(7,.nilS),(52,.ref 2 1 0 d.states.toNat),(53,.int .i64 d.states.toNat),(54,.int .i64 0)]
theorem zu5 {d:Desc} {k:Nat} {V:Nat→Nat} {env:Env} (h1:env 1=.ptr 0 1 0 0) (h3:env 3=.ref 1 1 0 d.states.toNat) (h4:env 4=.ref 2 1 0 d.states.toNat) (h7:env 7=.nilS) (h52:env 52=.ref 2 1 0 d.states.toNat) (h53:env 53=.int .i64 d.states.toNat) (h54:env 54=.int .i64 0) :
   Ent 105 0 env (z2u d k V) (z3x (z8d d k)) (Abs.hl [⟨6,1,true,[z1j d]⟩,⟨0,2,false,[]⟩,⟨1,1,true,famI d.states.toNat (inD (d.rules.take k))⟩]):=by
 obtain ⟨f1,f2⟩:=y8b d k V
 rw [← h3] at f1 f2
 refine (y7p 3 2 (zan d.states.toNat) f1).trans ((zie (z8d d k) fun p hp=>?_).trans ((zyj (H':=Abs.hl ([⟨6,1,true,[z1j d]⟩,⟨0,2,false,[]⟩,⟨1,1,true,famI d.states.toNat (inD (d.rules.take k))⟩] ++ (famF d.states.toNat V (toD (d.rules.take k))).map Grp.dead)) ?_ ?_).trans (zx9 (by omega) ?_ ?_)))
 · rw [f2]
   simp only [z8d,List.mem_cons,List.not_mem_nil,or_false] at hp
   rcases hp with rfl|rfl|rfl|rfl|rfl|rfl|rfl<;>first|rfl|assumption
 · simp [z2u,z02.kill,Abs.hl]
 · intro g hg
   show _=if g ∈ zan d.states.toNat then ((z2u d k V).at_ g).dead else (z2u d k V).at_ g
   have hlen:(z2u d k V).n=d.states.toNat + 3:=zjm d k V
   have hg':g < d.states.toNat + 3:=by rw [← hlen];exact hg
   match g,hg' with
   | 0,_=>rw [if_neg (by simp [zan])];rfl
   | 1,_=>rw [if_pos (by simp [zan])];rfl
   | 2,_=>rw [if_neg (by simp [zan])];rfl
   | i + 3,hi =>
     have hi':i < d.states.toNat:=by omega
     rw [if_pos (zmm hi'),y49 d k V hi',z3a]
     simp only [List.cons_append,List.nil_append,List.getD_cons_succ,famF,List.map_map]
     exact z37 hi'
 · intro G hG
   simp only [List.mem_cons,List.not_mem_nil,or_false] at hG
   rcases hG with rfl|rfl|rfl
   · exact z4z _ _ (by simp [z0p,zbe])
   · trivial
   · exact z4z _ _ (z2w.2 fun x hx=>by
       obtain ⟨i,_,rfl⟩:=List.mem_map.1 hx
       rfl)
 · intro i _
   have hd:ltV 3 (zyi d.states.toNat (toD (d.rules.take k))):=trivial
   simp only [z3x,z8d]
   repeat' split
   all_goals first
     | exact hd
     | trivial
     | (show _ < _;simp)
theorem zu6 (d:Desc) (hd:yc1 d):PC Tryz.prog 77 [z1j d] (.bool (@decide (cycP d.rules d.states.toNat) (Classical.propDecidable _))):=by
 obtain ⟨⟨hn1,hn2⟩,hlen,hrul⟩:=hd
 have hP:=z0v d.rules
 refine z0s zli ?_
 unfold zbw
 (repeat' (first|(simp (disch:=omega) only [push_cast,↓zz,seval])|(with_reducible first|refine And.intro ?_ ?_|(first|refine z01 ?_ ?_|refine z00 ?_ ?_)<;>intro hc<;>(try simp only [push_cast] at hc))|omega|with_reducible intro _))
 refine z0f (y7o (fun (s:Nat × (Nat→Nat))=>s.1 ≤ d.rules.length) (fun s=>d.rules.length - s.1) (fun s=>zf0 d s.1) (fun s=>z2u d s.1 s.2) (0,fun _=>1) (by simp) ?_ ?_)
 · exact zyh rfl rfl rfl rfl rfl rfl
 rintro ⟨k,V⟩ hk
 simp only at hk ⊢
 rcases Nat.lt_or_ge k d.rules.length with hkl|hkl
 · have hr:=hrul _ (z0i hkl)
   generalize hre:nth d.rules k=r at *
   have hgr:=z05 r.guards
   have hot:=z0w r.out
   obtain ⟨n,hn⟩:∃ n:Nat,d.states=n:=⟨d.states.toNat,by omega⟩
   obtain ⟨i,hi⟩:∃ i:Nat,r.from_=i:=⟨r.from_.toNat,by omega⟩
   obtain ⟨j,hj⟩:∃ j:Nat,r.to_=j:=⟨r.to_.toNat,by omega⟩
   have hin:i < n:=by omega
   have hjn:j < n:=by omega
   have hni:¬ n=i:=by omega
   have ee:zf0 d k=z3x [(1,.ptr 0 1 0 0),(3,.ref 1 1 0 n),(4,.ref 2 1 0 n),(21,z3u d.rules),(22,.int .i64 d.rules.length),(23,.int .i64 k)]:=by simp only [zf0,hn,Int.toNat_natCast]
   have eh:z2u d k V=Abs.hl (⟨6,1,true,[z1j d]⟩ :: ⟨1,1,true,famT n V (toD (d.rules.take k))⟩ :: ⟨1,1,true,famI n (inD (d.rules.take k))⟩ :: famF n V (toD (d.rules.take k))):=by simp only [z2u,hn,Int.toNat_natCast]
   rw [ee,eh]
   clear ee eh
   have hFl:(famF n V (toD (d.rules.take k))).length=n:=by simp [famF]
   have hTl:(famT n V (toD (d.rules.take k))).length=n:=by simp [famT]
   have hIl:(famI n (inD (d.rules.take k))).length=n:=by simp [famI]
   have gI:∀ G,(famF n V (toD (d.rules.take k)) ++ [G]).getD i default=zot (V i) (toD (d.rules.take k) i):=fun G=>by
     rw [List.getD_eq_getElem?_getD,List.getElem?_append_left (by omega),← List.getD_eq_getElem?_getD]
     exact z37 hin
   have gR:∀ G,(famF n V (toD (d.rules.take k)) ++ [G]).getD n default=G:=fun G=>by
     rw [List.getD_eq_getElem?_getD,List.getElem?_append_right (by omega)]
     simp [hFl]
   have tI:(famT n V (toD (d.rules.take k))).getD i .any=.ref (i + 3) (V i) 0 (toD (d.rules.take k) i).length:=z37 hin
   have iJ:(famI n (inD (d.rules.take k))).getD j .any=.int .i64 (inD (d.rules.take k) j):=z37 hjn
   have sR:∀ G G',setQ (famF n V (toD (d.rules.take k)) ++ [G]) n G'=some (famF n V (toD (d.rules.take k)) ++ [G']):=fun G G'=>by
     have:=zre (famF n V (toD (d.rules.take k))) G G'
     rwa [hFl] at this
   have sI:∀ G G',setQ (famF n V (toD (d.rules.take k)) ++ [G]) i G'=some ((famF n V (toD (d.rules.take k))).set i G' ++ [G]):=fun G G'=>zrf _ _ _ (by omega)
   have gR2:∀ G G',((famF n V (toD (d.rules.take k))).set i G' ++ [G]).getD n default=G:=fun G G'=>by
     rw [List.getD_eq_getElem?_getD,List.getElem?_append_right (by simp [hFl])]
     simp [hFl]
   have hSB:∀ R G,z2c 3 [i + 3] (famF n V (toD (d.rules.take k)) ++ [R]) ((famF n V (toD (d.rules.take k))).set i G ++ [R]):=fun R G=>by
     rw [← List.set_append_left _ _ (by omega)]
     exact zez (by simp;omega)
   generalize hF:famF n V (toD (d.rules.take k))=F at *
   generalize hT:famT n V (toD (d.rules.take k))=TT at *
   generalize hI:famI n (inD (d.rules.take k))=II at *
   generalize hD:toD (d.rules.take k) i=Di at *
   generalize hJ:inD (d.rules.take k) j=Ij at *
   refine W_T ?_
   have hEx:(!Di.isEmpty || (Di.map (AV.int .i64)).isEmpty)=true:=by cases Di<;>rfl
   have hDl:Di.length ≤ 4096:=by rw [← hD];have:=y48 (d.rules.take k) i;simp at this;omega
   have hJb:0 ≤ Ij∧Ij ≤ 4096:=by rw [← hJ];have:=zyf (d.rules.take k) j;simp at this;omega
   (repeat' (first|(simp (disch:=omega) only [push_cast,↓zz,seval,hP,hre,hi,hj,hFl,hTl,hIl,gI,gR,gR2,sR,sI,tI,iJ,List.cons_append,List.length_append,List.length_cons])|(with_reducible first|refine And.intro ?_ ?_|(first|refine z01 ?_ ?_|refine z00 ?_ ?_)<;>intro hc<;>(try simp only [push_cast] at hc))|omega|with_reducible intro _))
   · refine z2i [i + 3] ?_
     (repeat' (first|(simp (disch:=omega) only [push_cast,↓zz,seval,xx,List.mem_cons,List.not_mem_nil,or_false,false_or,not_or,not_false_eq_true,true_or,or_true,hP,hre,hi,hj,hFl,hTl,hIl,gI,gR,gR2,sR,sI,tI,iJ,List.cons_append,List.length_append,List.length_cons,hni,hEx])|(with_reducible first|refine And.intro ?_ ?_|(first|refine z01 ?_ ?_|refine z00 ?_ ?_)<;>intro hc<;>(try simp only [push_cast] at hc))|omega|with_reducible intro _))
     · exact hSB _ _
     have he:z3z (nth d.rules k)=true:=by rw [hre,z3z];simpa using ‹(r.guards.length:Int)=0›
     have e1:=y30 (i:=i) hkl (by rw [hre];exact hi) he
     have e2:=y31 (j:=j) hkl (by rw [hre];exact hj) he
     refine ⟨(k + 1,setV V i (V i + 1)),zye (gar:=[⟨5,1,true,[.agg [.int .i64 i,.int .i64 j,z0b r.guards,.int .i64 r.eat,z3n r.out]]⟩]) hn1 ?_ ?_ ?_ ?_ ?_ ?_ ?_,by simp only;omega,by simp only;omega⟩
     · rw [cycL,e1,e2,hn,Int.toNat_natCast,← hF,← hT,← hI,← hD,← hJ,hre,hj,y2y hin,zrg hjn,y2z hin]
       rfl
     all_goals first|rfl|(rw [hn];rfl)
   · have he:z3z (nth d.rules k)=false:=by rw [hre,z3z];simpa using ‹¬ (r.guards.length:Int)=0›
     obtain ⟨e1,e2⟩:=y32 hkl he
     refine ⟨(k + 1,V),zye (gar:=[⟨5,1,true,[.agg [.int .i64 i,.int .i64 j,z0b r.guards,.int .i64 r.eat,z3n r.out]]⟩]) hn1 ?_ ?_ ?_ ?_ ?_ ?_ ?_,by simp only;omega,by simp only;omega⟩
     · rw [cycL,e1,e2,hn,Int.toNat_natCast,hF,hT,hI]
       rfl
     all_goals first|rfl|(rw [hn];rfl)
 · obtain rfl:k=d.rules.length:=by omega
   obtain ⟨n,hn⟩:∃ n:Nat,d.states=n:=⟨d.states.toNat,by omega⟩
   have ee:zf0 d d.rules.length=z3x [(1,.ptr 0 1 0 0),(3,.ref 1 1 0 n),(4,.ref 2 1 0 n),(21,z3u d.rules),(22,.int .i64 d.rules.length),(23,.int .i64 d.rules.length)]:=by simp only [zf0,hn,Int.toNat_natCast]
   refine W_T ?_
   rw [ee,zh9]
   (repeat' (first|(simp (disch:=omega) only [push_cast,↓zz,seval,hP])|(with_reducible first|refine And.intro ?_ ?_|(first|refine z01 ?_ ?_|refine z00 ?_ ?_)<;>intro hc<;>(try simp only [push_cast] at hc))|omega|with_reducible intro _))
   refine y7q (zu5 rfl (by rw [hn];rfl) (by rw [hn];rfl) rfl (by rw [hn];rfl) (by rw [hn];rfl) rfl) ?_
   have el:z8d d d.rules.length=[(1,.ptr 0 1 0 0),(3,.lst 1 ((List.range n).map fun i=>z4p (toD d.rules i))),(4,.ref 2 1 0 n),(7,.nilS),(52,.ref 2 1 0 n),(53,.int .i64 n),(54,.int .i64 0)]:=by
     simp only [z8d,hn,Int.toNat_natCast,List.take_length,zyi]
   rw [el,hn,Int.toNat_natCast,List.take_length]
   clear el ee
   have pL:z0p ((List.range n).map fun i=>z4p (toD d.rules i))=true:=z2w.2 fun x hx=>by
     obtain ⟨i,_,rfl⟩:=List.mem_map.1 hx
     exact z4k .i64 _
   have lL:((List.range n).map fun i=>z4p (toD d.rules i)).length=n:=by simp
   have aL:∀ i,i < n→((List.range n).map fun i=>z4p (toD d.rules i)).getD i .any=z4p (toD d.rules i):=fun i hi=>z37 hi
   have aL2:∀ i,i < n→((List.range n).map fun i=>z4p (toD d.rules i))[i]? = some (z4p (toD d.rules i)):=fun i hi=>by simp [hi]
   generalize hLe:(List.range n).map (fun i=>z4p (toD d.rules i))=L at *
   have pI:∀ f,z0p (famI n f)=true:=fun f=>z2w.2 fun x hx=>by
     obtain ⟨i,_,rfl⟩:=List.mem_map.1 hx
     rfl
   have lI:∀ f,(famI n f).length=n:=fun f=>by simp [famI]
   have aI:∀ f i,i < n→(famI n f).getD i .any=.int .i64 (f i):=fun f i hi=>z37 hi
   have hnn:(n:Int) ≤ 1024:=by omega
   refine z0f (z0g (fun (k:Nat)=>k ≤ n) (fun k=>n - k)
     (fun k=>[(1,.ptr 0 1 0 0),(3,.lst 1 L),(4,.ref 1 1 0 n),(7,.ref 2 1 0 (z99 (inD d.rules) k).length),(52,.ref 1 1 0 n),(53,.int .i64 n),(54,.int .i64 k)]) (fun k=>[⟨6,1,true,[z1j d]⟩,⟨1,1,true,famI n (inD d.rules)⟩,⟨1,1,false,(z99 (inD d.rules) k).map (AV.int .i64)⟩]) (fun env _=>[z0k 1 (env 1),z0k 1 (env 4),z0k 1 (env 7)]) 0 (by simp) ?_ ?_)
   · have z0:z99 (inD d.rules) 0=[]:=rfl
     (repeat' (first|(simp (disch:=omega) only [push_cast,↓zz,seval,pL,lL,pI,lI,z0])|(with_reducible first|refine And.intro ?_ ?_|(first|refine z01 ?_ ?_|refine z00 ?_ ?_)<;>intro hc<;>(try simp only [push_cast] at hc))|omega|with_reducible intro _))
   intro k hk
   have zl:=zxq (inD d.rules) k
   rcases Nat.lt_or_ge k n with hkn|hkn
   · have aK:=aI (inD d.rules) k hkn
     have zs:=zta (inD d.rules) k
     have hib:=zyf d.rules k
     generalize inD d.rules k=v at *
     refine W_T ?_
     (repeat' (first|(simp (disch:=omega) only [push_cast,↓zz,seval,pL,lL,pI,lI,aK])|(with_reducible first|refine And.intro ?_ ?_|(first|refine z01 ?_ ?_|refine z00 ?_ ?_)<;>intro hc<;>(try simp only [push_cast] at hc))|omega|with_reducible intro _))
     · rw [if_pos (by assumption)] at zs
       refine ⟨k + 1,?_⟩
       (repeat' (first|(simp (disch:=omega) only [push_cast,↓zz,seval,zs])|(with_reducible first|refine And.intro ?_ ?_|(first|refine z01 ?_ ?_|refine z00 ?_ ?_)<;>intro hc<;>(try simp only [push_cast] at hc))|omega|with_reducible intro _))
     · rw [if_neg (by assumption)] at zs
       refine ⟨k + 1,?_⟩
       (repeat' (first|(simp (disch:=omega) only [push_cast,↓zz,seval,zs])|(with_reducible first|refine And.intro ?_ ?_|(first|refine z01 ?_ ?_|refine z00 ?_ ?_)<;>intro hc<;>(try simp only [push_cast] at hc))|omega|with_reducible intro _))
   · have hkn2:n=k:=by omega
     subst hkn2
     refine W_T ?_
     (repeat' (first|(simp (disch:=omega) only [push_cast,↓zz,seval,pL,lL,pI,lI])|(with_reducible first|refine And.intro ?_ ?_|(first|refine z01 ?_ ?_|refine z00 ?_ ?_)<;>intro hc<;>(try simp only [push_cast] at hc))|omega|with_reducible intro _))
     have hto:∀ s m,m < (toD d.rules s).length→0 ≤ nth (toD d.rules s) m∧nth (toD d.rules s) m < n:=fun s m hm=>by
       have hm2:nth (toD d.rules s) m ∈ toD d.rules s:=z0i hm
       generalize nth (toD d.rules s) m=x at *
       obtain ⟨r,hr,rfl⟩:=List.mem_map.1 hm2
       have:=hrul r (List.mem_filter.1 hr).1
       omega
     refine z0f (z0g (fun (s:List Int × List Int × List Int)=>KInv d.rules n (s.1 ++ s.2.1) (cntE d.rules s.1)) (fun s=>n - s.1.length)
       (fun s=>[(1,.ptr 0 1 0 0),(3,.lst 1 L),(4,.ref 1 1 0 n),(7,.ref 2 1 s.2.2.length s.2.1.length),(10,.int .i64 s.1.length)]) (fun s=>[⟨6,1,true,[z1j d]⟩,⟨1,1,true,famI n (cntE d.rules s.1)⟩,⟨1,1,false,(s.2.2 ++ s.2.1).map (AV.int .i64)⟩]) (fun env _=>[z0k 1 (env 1),z0k 1 (env 4),z0k 1 (env 7)]) ([],z99 (inD d.rules) n,[]) (ztb d.rules n) ?_ ?_)
     · have e0:cntE d.rules []=inD d.rules:=funext fun j=>zj6 _ _
       (repeat' (first|(simp (disch:=omega) only [push_cast,↓zz,seval,pL,lL,pI,lI,e0])|(with_reducible first|refine And.intro ?_ ?_|(first|refine z01 ?_ ?_|refine z00 ?_ ?_)<;>intro hc<;>(try simp only [push_cast] at hc))|omega|with_reducible intro _))
     rintro ⟨P,td,junk⟩ hK
     simp only at hK
     have hlen2:=hK.len
     rw [List.length_append] at hlen2
     rcases td with _|⟨x,rest⟩
     · rw [List.append_nil] at hK
       have hdone:=zxt (fun r hr=>by have:=hrul r hr;omega) hK
       refine W_T ?_
       (repeat' (first|(simp (disch:=omega) only [push_cast,↓zz,seval,pL,lL,pI,lI])|(with_reducible first|refine And.intro ?_ ?_|(first|refine z01 ?_ ?_|refine z00 ?_ ?_)<;>intro hc<;>(try simp only [push_cast] at hc))|omega|with_reducible intro _))
       all_goals exact decide_eq_decide.2 (by rw [← hdone];omega)
     · have hx:=hK.range x (by simp)
       obtain ⟨s,rfl⟩:∃ s:Nat,x=s:=⟨x.toNat,by omega⟩
       have hsn:s < n:=by omega
       have hsP:(s:Int) ∉ P:=fun hh=>by
         exact (List.nodup_append.1 hK.nodup).2.2 (s:Int) hh (s:Int) (by simp) rfl
       have aS:=aL s hsn
       have aS2:=aL2 s hsn
       have j0:(junk.map (AV.int .i64) ++ AV.int .i64 (s:Int) :: rest.map (AV.int .i64)).getD junk.length .any=.int .i64 s:=by simp [List.getD]
       have j1:nth (junk ++ (s:Int) :: rest) junk.length=s:=by simp [nth]
       have hjl:(junk ++ (s:Int) :: rest).length=junk.length + (rest.length + 1):=by simp
       simp only [List.length_cons] at hlen2
       refine W_T ?_
       (repeat' (first|(simp (disch:=omega) only [push_cast,↓zz,seval,pL,lL,pI,lI,aS,aS2,j0,j1,hjl,List.length_cons])|(with_reducible first|refine And.intro ?_ ?_|(first|refine z01 ?_ ?_|refine z00 ?_ ?_)<;>intro hc<;>(try simp only [push_cast] at hc))|omega|with_reducible intro _))
       have hK0:KInv d.rules n (P ++ [(s:Int)] ++ rest) (z4j d.rules P s 0):=by
         rw [zgw,List.append_assoc]
         exact hK
       have hDb:=y48 d.rules s
       refine z0f (z0g (fun (q:Nat × List Int × List Int)=>q.1 ≤ (toD d.rules s).length∧KInv d.rules n (P ++ [(s:Int)] ++ q.2.1) (z4j d.rules P s q.1)) (fun q=>(toD d.rules s).length - q.1)
         (fun q=>[(1,.ptr 0 1 0 0),(3,.lst 1 L),(4,.ref 1 1 0 n),(7,.ref 2 1 q.2.2.length q.2.1.length),(10,.int .i64 P.length),(79,z4p (toD d.rules s)),(80,.int .i64 (toD d.rules s).length),(81,.int .i64 q.1)]) (fun q=>[⟨6,1,true,[z1j d]⟩,⟨1,1,true,famI n (z4j d.rules P s q.1)⟩,⟨1,1,false,(q.2.2 ++ q.2.1).map (AV.int .i64)⟩]) (fun env _=>[z0k 1 (env 1),z0k 1 (env 4),z0k 1 (env 7)]) (0,rest,junk ++ [(s:Int)]) ⟨by simp,hK0⟩ ?_ ?_)
       · have e0:=zgw d.rules P s
         (repeat' (first|(simp (disch:=omega) only [push_cast,↓zz,seval,pL,lL,pI,lI,e0,List.map_append,List.append_assoc,List.map_cons,List.map_nil,List.cons_append,List.nil_append,List.length_append,List.length_cons,List.length_nil])|(with_reducible first|refine And.intro ?_ ?_|(first|refine z01 ?_ ?_|refine z00 ?_ ?_)<;>intro hc<;>(try simp only [push_cast] at hc))|omega|with_reducible intro _))
       rintro ⟨m,td,jk⟩ ⟨m1,m2⟩
       simp only at m1 m2
       have hlen3:=m2.len
       simp only [List.length_append,List.length_cons,List.length_nil] at hlen3
       rcases Nat.lt_or_ge m (toD d.rules s).length with hm|hm
       · obtain ⟨t1,t2⟩:=hto s m hm
         obtain ⟨t,ht⟩:∃ t:Nat,nth (toD d.rules s) m=t:=⟨(nth (toD d.rules s) m).toNat,by omega⟩
         have htn:t < n:=by omega
         have hst:=zxs hsP hm ht htn m2
         have hle:=zb5 (P:=P) hm ht
         have hps:=zm5 hsP hm ht
         have aT:=aI (z4j d.rules P s m) t htn
         have aT2:=aI (z4j d.rules P s (m + 1)) t htn
         have hv:z4j d.rules P s (m + 1) t=z4j d.rules P s m t - 1:=by rw [hle];simp
         have hset:(famI n (z4j d.rules P s m)).set t (.int .i64 (z4j d.rules P s m t - 1))=famI n (z4j d.rules P s (m + 1)):=by rw [hle];exact zrg htn
         have hlb:z4j d.rules P s m t ≤ 4096:=by
           have c1:cntE d.rules P t ≤ inD d.rules t:=by
             rw [← zj6]
             exact y80 _ _ _
           have c2:=zyf d.rules t
           have c3:z4j d.rules P s m t ≤ cntE d.rules P t:=by simp only [z4j];omega
           omega
         rw [hv] at aT2
         generalize z4j d.rules P s m t=v at *
         refine W_T ?_
         have eD:List.drop jk.length (jk.map (AV.int .i64) ++ td.map (AV.int .i64))=td.map (AV.int .i64):=by
           rw [List.drop_append_of_le_length (by simp),List.drop_eq_nil_of_le (by simp),List.nil_append]
         (repeat' (first|(simp (disch:=omega) only [push_cast,↓zz,seval,pL,lL,pI,lI,ht,aT,aT2,hset,eD])|(with_reducible first|refine And.intro ?_ ?_|(first|refine z01 ?_ ?_|refine z00 ?_ ?_)<;>intro hc<;>(try simp only [push_cast] at hc))|omega|with_reducible intro _))
         · rw [if_pos (by assumption)] at hst
           refine ⟨(m + 1,td ++ [(t:Int)],jk),?_⟩
           (repeat' (first|(simp (disch:=omega) only [push_cast,↓zz,seval,List.map_append,List.append_assoc,List.map_cons,List.map_nil,List.length_append,List.length_cons,List.length_nil])|(with_reducible first|refine And.intro ?_ ?_|(first|refine z01 ?_ ?_|refine z00 ?_ ?_)<;>intro hc<;>(try simp only [push_cast] at hc))|omega|with_reducible intro _))
           simpa [List.append_assoc] using hst
         · rw [if_pos (by assumption)] at hst
           refine ⟨(m + 1,td ++ [(t:Int)],[]),?_⟩
           (repeat' (first|(simp (disch:=omega) only [push_cast,↓zz,seval,List.map_append,List.append_assoc,List.map_cons,List.map_nil,List.nil_append,List.length_append,List.length_cons,List.length_nil])|(with_reducible first|refine And.intro ?_ ?_|(first|refine z01 ?_ ?_|refine z00 ?_ ?_)<;>intro hc<;>(try simp only [push_cast] at hc))|omega|with_reducible intro _))
           simpa [List.append_assoc] using hst
         · rw [if_neg (by assumption)] at hst
           refine ⟨(m + 1,td,jk),?_⟩
           (repeat' (first|(simp (disch:=omega) only [push_cast,↓zz,seval])|(with_reducible first|refine And.intro ?_ ?_|(first|refine z01 ?_ ?_|refine z00 ?_ ?_)<;>intro hc<;>(try simp only [push_cast] at hc))|omega|with_reducible intro _))
           simpa [List.append_assoc] using hst
       · have hme:m=(toD d.rules s).length:=by omega
         subst hme
         have hE:=zxr (l:=d.rules) hsP
         rw [hE] at m2
         rw [hE]
         refine W_T ?_
         (repeat' (first|(simp (disch:=omega) only [push_cast,↓zz,seval,pL,lL,pI,lI])|(with_reducible first|refine And.intro ?_ ?_|(first|refine z01 ?_ ?_|refine z00 ?_ ?_)<;>intro hc<;>(try simp only [push_cast] at hc))|omega|with_reducible intro _))
         all_goals
           refine ⟨(P ++ [(s:Int)],td,jk),?_⟩
           (repeat' (first|(simp (disch:=omega) only [push_cast,↓zz,seval,List.length_append,List.length_cons,List.length_nil])|(with_reducible first|refine And.intro ?_ ?_|(first|refine z01 ?_ ?_|refine z00 ?_ ?_)<;>intro hc<;>(try simp only [push_cast] at hc))|omega|with_reducible intro _))
         all_goals (simpa [List.append_assoc] using m2)
inductive Reach (E:List (Int × Int)) (F:List Int):Int→Prop where
 | base {s:Int}:s ∈ F→Reach E F s
 | step {s t:Int}:Reach E F s→(s,t) ∈ E→Reach E F t
structure InR (n:Nat) (F:List Int) (E:List (Int × Int)):Prop where
 f:∀ s ∈ F,0 ≤ s∧s < n
 e:∀ e ∈ E,(0 ≤ e.1∧e.1 < n)∧0 ≤ e.2∧e.2 < n
theorem Reach.rng {n:Nat} {F:List Int} {E:List (Int × Int)} (h:InR n F E) {s:Int} (hs:Reach E F s):0 ≤ s∧s < n:=by
 cases hs with
 | base h1=>exact h.f _ h1
 | step _ h1=>exact (h.e _ h1).2
structure SpInv (n:Nat) (F:List Int) (E:List (Int × Int)) (on:Nat→Bool) (todo:List Int):Prop where
 r1:∀ s ∈ todo,Reach E F s
 r2:∀ i:Nat,on i=true→Reach E F i
 base:∀ s ∈ F,on s.toNat=true ∨ s ∈ todo
 step:∀ i:Nat,on i=true→∀ t,((i:Int),t) ∈ E→on t.toNat=true ∨ t ∈ todo
end Go.Proofs.YticodgjinajkpaaGreat
namespace Go.Proofs.YticodgjinajkpaaGreat
open Abs
def z4r {α:Type} (p:α→Bool):List α→Nat→Option Nat
 | [],_=>none
 | x :: l,i=>if p x then z4r p l (i + 1) else some i
theorem zcv {α:Type} [Inhabited α] {p:α→Bool} {l:List α} {k:Nat} (h:k < l.length):z4r p (l.drop k) k=if p (nth l k) then z4r p (l.drop (k + 1)) (k + 1) else some k:=by rw [drop_at h,z4r]
theorem z6i {α:Type} {p:α→Bool}:∀ {l:List α} {i:Nat},z4r p l i=none→∀ x ∈ l,p x=true
 | [],_,_,_,h=>by cases h
 | y :: l,i,h,x,hx=>by
   rw [z4r] at h
   split at h
   · rename_i hp
     rcases List.mem_cons.1 hx with rfl|hx
     · exact hp
     · exact z6i h x hx
   · cases h
def z2q (d:Desc) (f:z4u):Bool:=z5o d f.from_ && (z2k d.in_ f.guards && z2p d f.out f.guards)
open Classical in
noncomputable def z3v (d:Desc):Int × Int :=
 if zex d=false then (1,0) else
   match z4r (z4f d) d.rules 0 with
   | some i=>(2,i)
   | none=>match z4r (z2q d) d.finals 0 with
     | some i=>(3,i)
     | none=>if cycP d.rules d.states.toNat then (4,0) else (0,0)
def z4x (d:Desc):Prop:=(∀ r ∈ d.rules,∀ t ∈ r.out,t.parts.length < 1000000000000)∧∀ f ∈ d.finals,∀ t ∈ f.out,t.parts.length < 1000000000000
theorem zjn {d:Desc} (h:zex d=true):(1 ≤ d.states∧d.states ≤ 1024)∧d.rules.length ≤ 4096∧d.finals.length ≤ 4096∧0 ≤ d.start∧d.start < d.states:=by
 simp only [zex,z5o,Bool.and_eq_true,decide_eq_true_eq] at h
 omega
theorem zf2 {d:Desc} {r:Rule} (h:z4f d r=true):(0 ≤ r.from_∧r.from_ < d.states)∧0 ≤ r.to_∧r.to_ < d.states:=by
 simp only [z4f,z5o,Bool.and_eq_true,decide_eq_true_eq] at h
 omega
theorem zu7 (d:Desc) (hf:z4x d):PC Tryz.prog 48 [z1j d] (.tup [.int .i64 (z3v d).1,.int .i64 (z3v d).2]):=by
 have hH:=zyc d
 have hPr:=z0v d.rules
 have hPf:=z0t d.finals
 refine z0s zle ?_
 unfold zbs
 cases hh:zex d with
 | false =>
   rw [hh] at hH
   rw [z3v,if_pos hh]
   (repeat' (first|(simp (disch:=omega) only [push_cast,↓zz,seval])|(with_reducible first|refine And.intro ?_ ?_|(first|refine z01 ?_ ?_|refine z00 ?_ ?_)<;>intro hc<;>(try simp only [push_cast] at hc))|((with_reducible first|refine eK hH ?_|refine eQ hH ?_|refine eG hH ?_))|((with_reducible first|refine cK hH ?_|refine cQ hH ?_|refine cG hH ?_);(simp (disch:=omega) only [push_cast,↓zz,seval]);(fail_if_success (with_reducible change False)))|omega|with_reducible intro _))
 | true =>
 rw [hh] at hH
 obtain ⟨b1,b2,b3,b4⟩:=zjn hh
 have hW:z3v d=match z4r (z4f d) d.rules 0 with
   | some i=>(2,(i:Int))
   | none=>match z4r (z2q d) d.finals 0 with
     | some i=>(3,(i:Int))
     | none=>if (@decide (cycP d.rules d.states.toNat) (Classical.propDecidable _))=true then (4,0) else (0,0):=by
   rw [z3v,if_neg (by simp [hh])]
   split
   · rfl
   · split
     · rfl
     · by_cases hc:cycP d.rules d.states.toNat
       · rw [if_pos hc,if_pos (@decide_eq_true _ (Classical.propDecidable _) hc)]
       · rw [if_neg hc,if_neg (by rw [@decide_eq_false _ (Classical.propDecidable _) hc];simp)]
 (repeat' (first|(simp (disch:=omega) only [push_cast,↓zz,seval])|(with_reducible first|refine And.intro ?_ ?_|(first|refine z01 ?_ ?_|refine z00 ?_ ?_)<;>intro hc<;>(try simp only [push_cast] at hc))|((with_reducible first|refine eK hH ?_|refine eQ hH ?_|refine eG hH ?_))|((with_reducible first|refine cK hH ?_|refine cQ hH ?_|refine cG hH ?_);(simp (disch:=omega) only [push_cast,↓zz,seval]);(fail_if_success (with_reducible change False)))|omega|with_reducible intro _))
 refine z0f (z0g (fun (k:Nat)=>k ≤ d.rules.length∧z4r (z4f d) d.rules 0=z4r (z4f d) (d.rules.drop k) k) (fun k=>d.rules.length - k)
   (fun k=>[(1,.ptr 0 1 0 0),(12,z3u d.rules),(13,.int .i64 d.rules.length),(14,.int .i64 k)]) (fun k=>[⟨6,1,true,[z1j d]⟩]) (fun env _=>[z0k 1 (env 1)]) 0 ⟨by simp,rfl⟩ ?_ ?_)
 · (repeat' (first|(simp (disch:=omega) only [push_cast,↓zz,seval,hPr,hPf])|(with_reducible first|refine And.intro ?_ ?_|(first|refine z01 ?_ ?_|refine z00 ?_ ?_)<;>intro hc<;>(try simp only [push_cast] at hc))|omega|with_reducible intro _))
 rintro k ⟨k1,k2⟩
 rcases Nat.lt_or_ge k d.rules.length with hk|hk
 · have hr:=zyd d (nth d.rules k) (hf.1 _ (z0i hk))
   rw [zcv hk] at k2
   cases hb:z4f d (nth d.rules k) with
   | false =>
     rw [hb] at hr k2
     simp only [Bool.false_eq_true,if_false] at k2
     rw [hW,k2]
     refine W_T ?_
     (repeat' (first|(simp (disch:=omega) only [push_cast,↓zz,seval,hPr,hPf])|(with_reducible first|refine And.intro ?_ ?_|(first|refine z01 ?_ ?_|refine z00 ?_ ?_)<;>intro hc<;>(try simp only [push_cast] at hc))|((with_reducible first|refine eK hr ?_|refine eQ hr ?_|refine eG hr ?_))|((with_reducible first|refine cK hr ?_|refine cQ hr ?_|refine cG hr ?_);(simp (disch:=omega) only [push_cast,↓zz,seval,hPr,hPf]);(fail_if_success (with_reducible change False)))|omega|with_reducible intro _))
   | true =>
     rw [hb] at hr k2
     simp only [if_true] at k2
     refine W_T ?_
     (repeat' (first|(simp (disch:=omega) only [push_cast,↓zz,seval,hPr,hPf])|(with_reducible first|refine And.intro ?_ ?_|(first|refine z01 ?_ ?_|refine z00 ?_ ?_)<;>intro hc<;>(try simp only [push_cast] at hc))|((with_reducible first|refine eK hr ?_|refine eQ hr ?_|refine eG hr ?_))|((with_reducible first|refine cK hr ?_|refine cQ hr ?_|refine cG hr ?_);(simp (disch:=omega) only [push_cast,↓zz,seval,hPr,hPf]);(fail_if_success (with_reducible change False)))|omega|with_reducible intro _))
     all_goals exact ⟨k + 1,by push_cast,⟨by omega,k2⟩,by omega⟩
 · rw [List.drop_of_length_le hk,z4r] at k2
   have hall:=z6i k2
   have hC:=zu6 d ⟨b1,b2,fun r hr=>zf2 (hall r hr)⟩
   rw [k2] at hW
   simp only at hW
   refine W_T ?_
   (repeat' (first|(simp (disch:=omega) only [push_cast,↓zz,seval,hPr,hPf])|(with_reducible first|refine And.intro ?_ ?_|(first|refine z01 ?_ ?_|refine z00 ?_ ?_)<;>intro hc<;>(try simp only [push_cast] at hc))|omega|with_reducible intro _))
   refine z0f (z0g (fun (k:Nat)=>k ≤ d.finals.length∧z4r (z2q d) d.finals 0=z4r (z2q d) (d.finals.drop k) k) (fun k=>d.finals.length - k)
     (fun k=>[(1,.ptr 0 1 0 0),(26,z4m d.finals),(27,.int .i64 d.finals.length),(28,.int .i64 k)]) (fun k=>[⟨6,1,true,[z1j d]⟩]) (fun env _=>[z0k 1 (env 1)]) 0 ⟨by simp,rfl⟩ ?_ ?_)
   · (repeat' (first|(simp (disch:=omega) only [push_cast,↓zz,seval,hPr,hPf])|(with_reducible first|refine And.intro ?_ ?_|(first|refine z01 ?_ ?_|refine z00 ?_ ?_)<;>intro hc<;>(try simp only [push_cast] at hc))|omega|with_reducible intro _))
   rintro j ⟨j1,j2⟩
   rcases Nat.lt_or_ge j d.finals.length with hj|hj
   · generalize hfe:nth d.finals j=f at *
     have hfm:f ∈ d.finals:=by rw [← hfe];exact z0i hj
     have hfo:=hf.2 f hfm
     have h1:=z8c d f.from_
     have h2:=zew d.in_ f.guards
     have hP:=z05 f.guards
     have hT:=z0w f.out
     rw [zcv hj,hfe] at j2
     cases hg:z2k d.in_ f.guards with
     | false =>
       have hb:z2q d f=false:=by rw [z2q,hg];simp
       rw [hg] at h2
       rw [hb] at j2
       simp only [Bool.false_eq_true,if_false] at j2
       rw [hW,j2]
       refine W_T ?_
       (repeat' (first|(simp (disch:=omega) only [push_cast,↓zz,seval,hPr,hPf,hfe,hP,hT])|(with_reducible first|refine And.intro ?_ ?_|(first|refine z01 ?_ ?_|refine z00 ?_ ?_)<;>intro hc<;>(try simp only [push_cast] at hc))|((with_reducible first|refine eK h1 ?_|refine eQ h1 ?_|refine eG h1 ?_))|((with_reducible first|refine eK h2 ?_|refine eQ h2 ?_|refine eG h2 ?_))|((with_reducible first|refine cK h1 ?_|refine cQ h1 ?_|refine cG h1 ?_);(simp (disch:=omega) only [push_cast,↓zz,seval,hPr,hPf,hfe,hP,hT]);(fail_if_success (with_reducible change False)))|((with_reducible first|refine cK h2 ?_|refine cQ h2 ?_|refine cG h2 ?_);(simp (disch:=omega) only [push_cast,↓zz,seval,hPr,hPf,hfe,hP,hT]);(fail_if_success (with_reducible change False)))|omega|with_reducible intro _))
     | true =>
       rw [hg] at h2
       obtain ⟨g1,g2⟩:=z4i hg
       have h4:=zey d f.out f.guards hfo (fun g hg=>by have:=g2 g hg;omega) (by omega)
       cases hb:z2q d f with
       | false =>
         rw [hb] at j2
         simp only [Bool.false_eq_true,if_false] at j2
         rw [hW,j2]
         rw [z2q,hg,Bool.true_and] at hb
         refine W_T ?_
         (repeat' (first|(simp (disch:=omega) only [push_cast,↓zz,seval,hPr,hPf,hfe,hP,hT])|(with_reducible first|refine And.intro ?_ ?_|(first|refine z01 ?_ ?_|refine z00 ?_ ?_)<;>intro hc<;>(try simp only [push_cast] at hc))|((with_reducible first|refine eK h1 ?_|refine eQ h1 ?_|refine eG h1 ?_))|((with_reducible first|refine eK h2 ?_|refine eQ h2 ?_|refine eG h2 ?_))|((with_reducible first|refine eK h4 ?_|refine eQ h4 ?_|refine eG h4 ?_))|((with_reducible first|refine cK h1 ?_|refine cQ h1 ?_|refine cG h1 ?_);(simp (disch:=omega) only [push_cast,↓zz,seval,hPr,hPf,hfe,hP,hT]);(fail_if_success (with_reducible change False)))|((with_reducible first|refine cK h2 ?_|refine cQ h2 ?_|refine cG h2 ?_);(simp (disch:=omega) only [push_cast,↓zz,seval,hPr,hPf,hfe,hP,hT]);(fail_if_success (with_reducible change False)))|((with_reducible first|refine cK h4 ?_|refine cQ h4 ?_|refine cG h4 ?_);(simp (disch:=omega) only [push_cast,↓zz,seval,hPr,hPf,hfe,hP,hT]);(fail_if_success (with_reducible change False)))|omega|with_reducible intro _))
         all_goals first
           | (exfalso;simp_all;done)
           | trace_state
       | true =>
         rw [hb] at j2
         simp only [if_true] at j2
         rw [z2q,hg,Bool.true_and,Bool.and_eq_true] at hb
         rw [hb.1] at h1
         rw [hb.2] at h4
         refine W_T ?_
         (repeat' (first|(simp (disch:=omega) only [push_cast,↓zz,seval,hPr,hPf,hfe,hP,hT])|(with_reducible first|refine And.intro ?_ ?_|(first|refine z01 ?_ ?_|refine z00 ?_ ?_)<;>intro hc<;>(try simp only [push_cast] at hc))|((with_reducible first|refine eK h1 ?_|refine eQ h1 ?_|refine eG h1 ?_))|((with_reducible first|refine eK h2 ?_|refine eQ h2 ?_|refine eG h2 ?_))|((with_reducible first|refine eK h4 ?_|refine eQ h4 ?_|refine eG h4 ?_))|((with_reducible first|refine cK h1 ?_|refine cQ h1 ?_|refine cG h1 ?_);(simp (disch:=omega) only [push_cast,↓zz,seval,hPr,hPf,hfe,hP,hT]);(fail_if_success (with_reducible change False)))|((with_reducible first|refine cK h2 ?_|refine cQ h2 ?_|refine cG h2 ?_);(simp (disch:=omega) only [push_cast,↓zz,seval,hPr,hPf,hfe,hP,hT]);(fail_if_success (with_reducible change False)))|((with_reducible first|refine cK h4 ?_|refine cQ h4 ?_|refine cG h4 ?_);(simp (disch:=omega) only [push_cast,↓zz,seval,hPr,hPf,hfe,hP,hT]);(fail_if_success (with_reducible change False)))|omega|with_reducible intro _))
         all_goals exact ⟨j + 1,by push_cast,⟨by omega,j2⟩,by omega⟩
   · rw [List.drop_of_length_le hj,z4r] at j2
     rw [j2] at hW
     simp only at hW
     generalize @decide (cycP d.rules d.states.toNat) (Classical.propDecidable _)=c at *
     refine W_T ?_
     rw [hW]
     cases c
     · (repeat' (first|(simp (disch:=omega) only [push_cast,↓zz,seval,hPr,hPf])|(with_reducible first|refine And.intro ?_ ?_|(first|refine z01 ?_ ?_|refine z00 ?_ ?_)<;>intro hc<;>(try simp only [push_cast] at hc))|((with_reducible first|refine eK hC ?_|refine eQ hC ?_|refine eG hC ?_))|((with_reducible first|refine cK hC ?_|refine cQ hC ?_|refine cG hC ?_);(simp (disch:=omega) only [push_cast,↓zz,seval,hPr,hPf]);(fail_if_success (with_reducible change False)))|omega|with_reducible intro _))
     · (repeat' (first|(simp (disch:=omega) only [push_cast,↓zz,seval,hPr,hPf])|(with_reducible first|refine And.intro ?_ ?_|(first|refine z01 ?_ ?_|refine z00 ?_ ?_)<;>intro hc<;>(try simp only [push_cast] at hc))|((with_reducible first|refine eK hC ?_|refine eQ hC ?_|refine eG hC ?_))|((with_reducible first|refine cK hC ?_|refine cQ hC ?_|refine cG hC ?_);(simp (disch:=omega) only [push_cast,↓zz,seval,hPr,hPf]);(fail_if_success (with_reducible change False)))|omega|with_reducible intro _))
       all_goals trace_state
noncomputable def z2r (d:Desc):Int:=if (z3v d).1=0 then 0 else 2
theorem z4y (d:Desc) (hf:z4x d):PC Tryz.prog 23 [z1j d] (.int .i64 (z2r d)):=by
 have hW:=zu7 d hf
 refine z0s zla ?_
 unfold zbo z2r
 generalize z3v d=w at *
 by_cases h:w.1=0
 · rw [if_pos h]
   (repeat' (first|(simp (disch:=omega) only [push_cast,↓zz,seval,h])|(with_reducible first|refine And.intro ?_ ?_|(first|refine z01 ?_ ?_|refine z00 ?_ ?_)<;>intro hc<;>(try simp only [push_cast] at hc))|((with_reducible first|refine eK hW ?_|refine eQ hW ?_|refine eG hW ?_))|((with_reducible first|refine cK hW ?_|refine cQ hW ?_|refine cG hW ?_);(simp (disch:=omega) only [push_cast,↓zz,seval,h]);(fail_if_success (with_reducible change False)))|omega|with_reducible intro _))
 · rw [if_neg h]
   (repeat' (first|(simp (disch:=omega) only [push_cast,↓zz,seval,h])|(with_reducible first|refine And.intro ?_ ?_|(first|refine z01 ?_ ?_|refine z00 ?_ ?_)<;>intro hc<;>(try simp only [push_cast] at hc))|((with_reducible first|refine eK hW ?_|refine eQ hW ?_|refine eG hW ?_))|((with_reducible first|refine cK hW ?_|refine cQ hW ?_|refine cG hW ?_);(simp (disch:=omega) only [push_cast,↓zz,seval,h]);(fail_if_success (with_reducible change False)))|omega|with_reducible intro _))
   all_goals trace_state
theorem fold_at {α β:Type} [Inhabited α] {f:β→α→β} {l:List α} {k:Nat} {s:β} (h:k < l.length):(l.drop k).foldl f s=(l.drop (k + 1)).foldl f (f s (nth l k)):=by rw [drop_at h,List.foldl_cons]
def freeB (d:Desc):Bool:=d.rules.all fun r=>!z3z r
def widF (n:Int) (r:Rule):Int:=max n r.guards.length
def yc2 (d:Desc):Int:=d.rules.foldl widF 0
def aheF (n:Int) (r:Rule):Int:=max n (r.guards.length - max r.eat 0)
def yc3 (d:Desc):Int:=d.rules.foldl aheF 0
def lonF (n:Int) (r:Rule):Int:=max n r.out.length
def lonG (n:Int) (f:z4u):Int:=max n f.out.length
def longV (d:Desc):Int:=d.finals.foldl lonG (d.rules.foldl lonF 0)
theorem zha (a b:Int):PC Tryz.prog 26 [.int .i64 a,.int .i64 b] (z1j ⟨a,b,1,0,[],[]⟩):=by
 refine z0s zlc ?_
 unfold zbq
 (repeat' (first|(simp (disch:=omega) only [push_cast,↓zz,seval])|(with_reducible first|refine And.intro ?_ ?_|(first|refine z01 ?_ ?_|refine z00 ?_ ?_)<;>intro hc<;>(try simp only [push_cast] at hc))|omega|with_reducible intro _))
 all_goals trace_state
def zf3:Term:=⟨0,0,21,0,0,[⟨0,0,21,0⟩]⟩
def z9b (s:Int):Desc:=⟨s,s,1,0,[⟨0,0,[domL s],1,[zf3]⟩],[⟨0,[],[]⟩]⟩
theorem yc4 {P:Program} {f:Nat} {xs:List AV} {y y2:AV} (h:PC P f xs y) (hle:AV.le y y2):PC P f xs y2:=⟨h.1,fun S cargs hS hx=>(h.2 S cargs hS hx).mono fun e w' hh=>by
 obtain ⟨v,S',x,H',he,hw,ev,hS',hv,rfl,rfl⟩:=hh
 exact ⟨v,S',_,_,he,hw,ev,hS',hle S' v hv,rfl,rfl⟩⟩
theorem y8c:AV.le (.lst 3 [.agg [.int .i64 0,.nilS,.nilS]]) (z4m [⟨0,[],[]⟩]) :=
 AV.le_lst rfl rfl (z0r (AV.le_agg (z0r (AV.le_refl _) (z0r (AV.le_nilS Nat.one_pos) (z0r (AV.le_nilS (by decide)) z56)))) z56)
theorem zyk (s:Int):PC Tryz.prog 25 [.int .i64 s] (z1j (z9b s)):=by
 have hE:=zha s s
 have hD:=z3i s
 have hC:=zxd 0 0
 have hp:z0p ((domL s).map z1g)=true:=z2b _
 have key:PC Tryz.prog 25 [.int .i64 s] (.agg [.int .i64 s,.int .i64 s,.int .i64 1,.int .i64 0,z3u [⟨0,0,[domL s],1,[zf3]⟩],.lst 3 [.agg [.int .i64 0,.nilS,.nilS]]]):=by
   refine z0s zno ?_
   unfold zdt
   (repeat' (first|(simp (disch:=omega) only [push_cast,↓zz,seval,hp])|(with_reducible first|refine And.intro ?_ ?_|(first|refine z01 ?_ ?_|refine z00 ?_ ?_)<;>intro hc<;>(try simp only [push_cast] at hc))|((with_reducible first|refine eK hE ?_|refine eQ hE ?_|refine eG hE ?_))|((with_reducible first|refine eK hD ?_|refine eQ hD ?_|refine eG hD ?_))|((with_reducible first|refine eK hC ?_|refine eQ hC ?_|refine eG hC ?_))|((with_reducible first|refine cK hE ?_|refine cQ hE ?_|refine cG hE ?_);(simp (disch:=omega) only [push_cast,↓zz,seval,hp]);(fail_if_success (with_reducible change False)))|((with_reducible first|refine cK hD ?_|refine cQ hD ?_|refine cG hD ?_);(simp (disch:=omega) only [push_cast,↓zz,seval,hp]);(fail_if_success (with_reducible change False)))|((with_reducible first|refine cK hC ?_|refine cQ hC ?_|refine cG hC ?_);(simp (disch:=omega) only [push_cast,↓zz,seval,hp]);(fail_if_success (with_reducible change False)))|omega|with_reducible intro _))
   all_goals first|rfl|trace_state
 exact yc4 key (AV.le_agg (z0r (AV.le_refl _) (z0r (AV.le_refl _) (z0r (AV.le_refl _) (z0r (AV.le_refl _) (z0r (AV.le_refl _) (z0r y8c z56)))))))
theorem zov (l:List Span) (hl:l.length ≤ 1000000000000):PC Tryz.prog 51 [z03 l] (z03 l):=by
 by_cases h0:l=[]
 · subst h0
   refine y3j ?_ ?_
   · refine z0s z1z ?_
     unfold z1l
     (repeat' (first|(simp (disch:=omega) only [push_cast,↓zz,seval])|(with_reducible first|refine And.intro ?_ ?_|(first|refine z01 ?_ ?_|refine z00 ?_ ?_)<;>intro hc<;>(try simp only [push_cast] at hc))|omega|with_reducible intro _))
   · refine z0s z1z ?_
     unfold z1l
     (repeat' (first|(simp (disch:=omega) only [push_cast,↓zz,seval])|(with_reducible first|refine And.intro ?_ ?_|(first|refine z01 ?_ ?_|refine z00 ?_ ?_)<;>intro hc<;>(try simp only [push_cast] at hc))|omega|with_reducible intro _))
 refine z0s z1z ?_
 unfold z1l
 (repeat' (first|(simp (disch:=omega) only [push_cast,↓zz,seval])|(with_reducible first|refine And.intro ?_ ?_|(first|refine z01 ?_ ?_|refine z00 ?_ ?_)<;>intro hc<;>(try simp only [push_cast] at hc))|omega|with_reducible intro _))
 all_goals trace_state
theorem zf4 (gs:List (List Span)) (hl:gs.length ≤ 1000000) (hg:∀ g ∈ gs,g.length ≤ 1000000):PC Tryz.prog 27 [z0b gs] (z0b gs):=by
 have hP:=z05 gs
 refine z0s zii ?_
 unfold z9v
 (repeat' (first|(simp (disch:=omega) only [push_cast,↓zz,seval])|(with_reducible first|refine And.intro ?_ ?_|(first|refine z01 ?_ ?_|refine z00 ?_ ?_)<;>intro hc<;>(try simp only [push_cast] at hc))|omega|with_reducible intro _))
 refine z0f (z0g (fun (k:Nat)=>k ≤ gs.length) (fun k=>gs.length - k)
   (fun k=>[(3,.ref 0 1 0 k),(6,z0b gs),(7,.int .i64 gs.length),(8,.int .i64 k)]) (fun k=>[⟨1,1,false,(gs.take k).map z03⟩]) (fun env _=>[z0k 1 (env 3)]) 0 (by simp) ?_ ?_)
 · (repeat' (first|(simp (disch:=omega) only [push_cast,↓zz,seval,hP])|(with_reducible first|refine And.intro ?_ ?_|(first|refine z01 ?_ ?_|refine z00 ?_ ?_)<;>intro hc<;>(try simp only [push_cast] at hc))|omega|with_reducible intro _))
 intro k hk
 have hpk:=z05 (gs.take k)
 rcases Nat.lt_or_ge k gs.length with hkl|hkl
 · have hC:=zov (nth gs k) (by have:=hg _ (z0i hkl);omega)
   have e1:(gs.take (k + 1)).map z03=(gs.take k).map z03 ++ [z03 (nth gs k)]:=by rw [take_at hkl];simp
   have hlm:((gs.take k).map z03).length=k:=by simp;omega
   generalize hgl:(gs.take k).map z03=L at *
   refine W_T ?_
   (repeat' (first|(simp (disch:=omega) only [push_cast,↓zz,seval,hP,hpk,hlm])|(with_reducible first|refine And.intro ?_ ?_|(first|refine z01 ?_ ?_|refine z00 ?_ ?_)<;>intro hc<;>(try simp only [push_cast] at hc))|((with_reducible first|refine eK hC ?_|refine eQ hC ?_|refine eG hC ?_))|((with_reducible first|refine cK hC ?_|refine cQ hC ?_|refine cG hC ?_);(simp (disch:=omega) only [push_cast,↓zz,seval,hP,hpk,hlm]);(fail_if_success (with_reducible change False)))|omega|with_reducible intro _))
   all_goals
     refine ⟨k + 1,?_⟩
     (repeat' (first|(simp (disch:=omega) only [push_cast,↓zz,seval,e1])|(with_reducible first|refine And.intro ?_ ?_|(first|refine z01 ?_ ?_|refine z00 ?_ ?_)<;>intro hc<;>(try simp only [push_cast] at hc))|omega|with_reducible intro _))
 · obtain rfl:k=gs.length:=by omega
   have et:List.take gs.length gs=gs:=List.take_of_length_le (by simp)
   rw [et] at hpk ⊢
   refine W_T ?_
   (repeat' (first|(simp (disch:=omega) only [push_cast,↓zz,seval,hP,hpk,et])|(with_reducible first|refine And.intro ?_ ?_|(first|refine z01 ?_ ?_|refine z00 ?_ ?_)<;>intro hc<;>(try simp only [push_cast] at hc))|omega|with_reducible intro _))
   all_goals trace_state
theorem zhb (l:List Term) (hl:l.length ≤ 1000000) (hg:∀ t ∈ l,t.parts.length ≤ 1000000):PC Tryz.prog 28 [z3n l] (z3n l):=by
 have hT:=z0w l
 refine z0s zld ?_
 unfold zbr
 (repeat' (first|(simp (disch:=omega) only [push_cast,↓zz,seval])|(with_reducible first|refine And.intro ?_ ?_|(first|refine z01 ?_ ?_|refine z00 ?_ ?_)<;>intro hc<;>(try simp only [push_cast] at hc))|omega|with_reducible intro _))
 refine z0f (z0g (fun (k:Nat)=>k ≤ l.length) (fun k=>l.length - k)
   (fun k=>[(3,.ref 0 1 0 k),(6,z3n l),(7,.int .i64 l.length),(8,.int .i64 k)]) (fun k=>[⟨6,1,false,(l.take k).map z1q⟩]) (fun env _=>[z0k 6 (env 3)]) 0 (by simp) ?_ ?_)
 · (repeat' (first|(simp (disch:=omega) only [push_cast,↓zz,seval,hT])|(with_reducible first|refine And.intro ?_ ?_|(first|refine z01 ?_ ?_|refine z00 ?_ ?_)<;>intro hc<;>(try simp only [push_cast] at hc))|omega|with_reducible intro _))
 intro k hk
 have hpk:=z0w (l.take k)
 rcases Nat.lt_or_ge k l.length with hkl|hkl
 · have hgt:=hg _ (z0i hkl)
   have e1:(l.take (k + 1)).map z1q=(l.take k).map z1q ++ [z1q (nth l k)]:=by rw [take_at hkl];simp
   have hlm:((l.take k).map z1q).length=k:=by simp;omega
   generalize hte:nth l k=t at *
   have hC:=zoa t.parts (by omega)
   have hpp:=z67 t.parts
   generalize hgl:(l.take k).map z1q=L at *
   refine W_T ?_
   (repeat' (first|(simp (disch:=omega) only [push_cast,↓zz,seval,hT,hpk,hlm,hte,hpp])|(with_reducible first|refine And.intro ?_ ?_|(first|refine z01 ?_ ?_|refine z00 ?_ ?_)<;>intro hc<;>(try simp only [push_cast] at hc))|((with_reducible first|refine eK hC ?_|refine eQ hC ?_|refine eG hC ?_))|((with_reducible first|refine cK hC ?_|refine cQ hC ?_|refine cG hC ?_);(simp (disch:=omega) only [push_cast,↓zz,seval,hT,hpk,hlm,hte,hpp]);(fail_if_success (with_reducible change False)))|omega|with_reducible intro _))
   all_goals
     refine ⟨k + 1,?_⟩
     (repeat' (first|(simp (disch:=omega) only [push_cast,↓zz,seval,e1])|(with_reducible first|refine And.intro ?_ ?_|(first|refine z01 ?_ ?_|refine z00 ?_ ?_)<;>intro hc<;>(try simp only [push_cast] at hc))|omega|with_reducible intro _))
 · obtain rfl:k=l.length:=by omega
   have et:List.take l.length l=l:=List.take_of_length_le (by simp)
   rw [et] at hpk ⊢
   refine W_T ?_
   (repeat' (first|(simp (disch:=omega) only [push_cast,↓zz,seval,hT,hpk,et])|(with_reducible first|refine And.intro ?_ ?_|(first|refine z01 ?_ ?_|refine z00 ?_ ?_)<;>intro hc<;>(try simp only [push_cast] at hc))|omega|with_reducible intro _))
   all_goals trace_state
theorem zyl {lo hi D q:Int} (hD:0 < D) (h:lo ≤ hi):(∃ x,lo ≤ x∧x ≤ hi∧x / D=q) ↔ lo / D ≤ q∧q ≤ hi / D:=by
 constructor
 · rintro ⟨x,h1,h2,rfl⟩
   exact ⟨Int.ediv_le_ediv hD h1,Int.ediv_le_ediv hD h2⟩
 · rintro ⟨h1,h2⟩
   rcases Int.lt_or_eq_of_le h1 with h3|h3
   · refine ⟨q * D,?_,?_,Int.mul_ediv_cancel _ (by omega)⟩
     · have:=(Int.ediv_lt_iff_lt_mul hD).1 h3;omega
     · exact (Int.le_ediv_iff_mul_le hD).1 h2
   · exact ⟨lo,Int.le_refl _,h,h3⟩
theorem zjo {x y M:Int} (hM:0 < M) (h1:x ≤ y) (h2:y - x < M):y / M=x / M ∨ y / M=x / M + 1:=by
 have a:=Int.ediv_le_ediv hM h1
 have c:y / M ≤ (x + M * 1) / M:=Int.ediv_le_ediv hM (by omega)
 rw [Int.add_mul_ediv_left _ _ (by omega)] at c
 omega
theorem zcw {w M k:Int} (h:0 ≤ w∧w < M):(M * k + w) % M=w:=by
 rw [Int.add_comm,Int.add_mul_emod_self_left,Int.emod_eq_of_lt h.1 h.2]
theorem zym {a b M w:Int} (hM:0 < M) (hab:a ≤ b) (hs:b - a < M - 1) :
   (∃ q,a ≤ q∧q ≤ b∧q % M=w) ↔ if a % M ≤ b % M then a % M ≤ w∧w ≤ b % M else (0 ≤ w∧w ≤ b % M) ∨ (a % M ≤ w∧w ≤ M - 1):=by
 have ea:=Int.mul_ediv_add_emod a M
 have eb:=Int.mul_ediv_add_emod b M
 have a1:=Int.emod_nonneg a (by omega:M ≠ 0)
 have a2:=Int.emod_lt_of_pos a hM
 have b1:=Int.emod_nonneg b (by omega:M ≠ 0)
 have b2:=Int.emod_lt_of_pos b hM
 constructor
 · rintro ⟨q,h1,h2,rfl⟩
   have eq:=Int.mul_ediv_add_emod q M
   have q1:=Int.emod_nonneg q (by omega:M ≠ 0)
   have q2:=Int.emod_lt_of_pos q hM
   have k1:=zjo hM hab (by omega)
   have k2:=zjo hM h1 (by omega)
   have e1:M * (a / M + 1)=M * (a / M) + M:=by rw [Int.mul_add,Int.mul_one]
   rcases k1 with k1|k1<;>rcases k2 with k2|k2<;>rw [k1] at eb<;>rw [k2] at eq<;>(try rw [e1] at eb)<;>(try rw [e1] at eq)<;>split<;>omega
 · intro h
   have k1:=zjo hM hab (by omega)
   have e1:M * (a / M + 1)=M * (a / M) + M:=by rw [Int.mul_add,Int.mul_one]
   rcases k1 with k1|k1
   · rw [k1] at eb
     rw [if_pos (by omega)] at h
     exact ⟨M * (a / M) + w,by omega,by omega,zcw (by omega)⟩
   · rw [k1,e1] at eb
     rw [if_neg (by omega)] at h
     rcases h with h|h
     · exact ⟨M * (a / M + 1) + w,by omega,by omega,zcw (by omega)⟩
     · exact ⟨M * (a / M) + w,by omega,by omega,zcw (by omega)⟩
theorem y35 {a b M w:Int} (hM:0 < M) (hs:M - 1 ≤ b - a):(∃ q,a ≤ q∧q ≤ b∧q % M=w) ↔ 0 ≤ w∧w ≤ M - 1:=by
 constructor
 · rintro ⟨q,_,_,rfl⟩
   have q1:=Int.emod_nonneg q (by omega:M ≠ 0)
   have q2:=Int.emod_lt_of_pos q hM
   omega
 · intro h
   have e:=Int.mul_ediv_add_emod (w - a) M
   have q1:=Int.emod_nonneg (w - a) (by omega:M ≠ 0)
   have q2:=Int.emod_lt_of_pos (w - a) hM
   refine ⟨a + (w - a) % M,by omega,by omega,?_⟩
   have:a + (w - a) % M=M * (-((w - a) / M)) + w:=by rw [Int.mul_neg];omega
   rw [this,zcw (by omega)]
theorem zrh {d t:Nat} {s:Span} {w:Int} (hs:s.lo ≤ s.hi) (hn:¬ (2 ^ t - 1:Int) ≤ s.hi / 2 ^ d - s.lo / 2 ^ d):memL (imgS d t s) w ↔ ∃ x,(s.lo ≤ x∧x ≤ s.hi)∧x / 2 ^ d % 2 ^ t=w:=by
 have hD:(0:Int) < 2 ^ d:=Int.pow_pos (by decide)
 have hT:(0:Int) < 2 ^ t:=Int.pow_pos (by decide)
 have hab:=Int.ediv_le_ediv hD hs
 have key:(∃ x,(s.lo ≤ x∧x ≤ s.hi)∧x / 2 ^ d % 2 ^ t=w) ↔ ∃ q,s.lo / 2 ^ d ≤ q∧q ≤ s.hi / 2 ^ d∧q % 2 ^ t=w:=by
   constructor
   · rintro ⟨x,⟨h1,h2⟩,h3⟩
     exact ⟨x / 2 ^ d,Int.ediv_le_ediv hD h1,Int.ediv_le_ediv hD h2,h3⟩
   · rintro ⟨q,h1,h2,h3⟩
     obtain ⟨x,k1,k2,k3⟩:=(zyl hD hs).2 ⟨h1,h2⟩
     exact ⟨x,⟨k1,k2⟩,by rw [k3];exact h3⟩
 rw [key,zym hT hab (by omega),imgS]
 split
 · simp [z0e,z0z]
 · simp [z0e,z0z]
theorem zri {d t:Nat} {w:Int}:∀ (l out:List Span),(∀ s ∈ l,s.lo ≤ s.hi)→(∀ v,memL out v→0 ≤ v∧v ≤ 2 ^ t - 1)→(memL (imgF d t l out) w ↔ memL out w ∨ ∃ x,memL l x∧x / 2 ^ d % 2 ^ t=w)
 | [],out,_,_=>by simp [imgF,z0z]
 | s :: l,out,h,ho=>by
   have hD:(0:Int) < 2 ^ d:=Int.pow_pos (by decide)
   have hT:(0:Int) < 2 ^ t:=Int.pow_pos (by decide)
   have hs:=h s (by simp)
   rw [imgF]
   split
   · rename_i hb
     have hf:=y35 (w:=w) hT hb
     constructor
     · intro hw
       have hw':0 ≤ w∧w ≤ 2 ^ t - 1:=by simpa [allS,z0e,z0z] using hw
       obtain ⟨q,h1,h2,h3⟩:=hf.2 hw'
       obtain ⟨x,k1,k2,k3⟩:=(zyl hD hs).2 ⟨h1,h2⟩
       exact .inr ⟨x,z0e.2 (.inl ⟨k1,k2⟩),by rw [k3];exact h3⟩
     · intro hw
       have:0 ≤ w∧w ≤ 2 ^ t - 1:=by
         rcases hw with hw|⟨x,_,rfl⟩
         · exact ho w hw
         · have q1:=Int.emod_nonneg (x / 2 ^ d) (by omega:(2:Int) ^ t ≠ 0)
           have q2:=Int.emod_lt_of_pos (x / 2 ^ d) hT
           omega
       simpa [allS,z0e,z0z] using this
   · rename_i hb
     rw [zri l _ (fun s hs=>h s (by simp [hs])) (fun v hv=>?_),z3o,zrh hs hb]
     · constructor
       · rintro ((h1|⟨x,h1,h2⟩)|⟨x,h1,h2⟩)
         · exact .inl h1
         · exact .inr ⟨x,z0e.2 (.inl h1),h2⟩
         · exact .inr ⟨x,z0e.2 (.inr h1),h2⟩
       · rintro (h1|⟨x,h1,h2⟩)
         · exact .inl (.inl h1)
         · rcases z0e.1 h1 with h1|h1
           · exact .inl (.inr ⟨x,h1,h2⟩)
           · exact .inr ⟨x,h1,h2⟩
     · rcases z3o.1 hv with hv|hv
       · exact ho v hv
       · obtain ⟨x,_,rfl⟩:=(zrh hs hb).1 hv
         have q1:=Int.emod_nonneg (x / 2 ^ d) (by omega:(2:Int) ^ t ≠ 0)
         have q2:=Int.emod_lt_of_pos (x / 2 ^ d) hT
         omega
theorem mem_map {α:Type} {f:α→Span} {l:List α} {v:Int}:memL (l.map f) v ↔ ∃ a ∈ l,(f a).lo ≤ v∧v ≤ (f a).hi:=by
 simp only [memL,List.mem_map]
 exact ⟨fun ⟨_,⟨a,h,rfl⟩,h2⟩=>⟨a,h,h2⟩,fun ⟨a,h,h2⟩=>⟨_,⟨a,h,rfl⟩,h2⟩⟩
theorem zrj {p:Part} (s:List Span) (hb:z2s p=true):Plain (imgL p s)∧∀ v,memL (imgL p s) v ↔ ∃ x,memL s x∧(0 ≤ x∧x ≤ 2097151)∧valP p x=v:=by
 have hbi:=z3h.1 hb
 have ht:=z6e p.take.toNat (by omega)
 have hT:(0:Int) < 2 ^ p.take.toNat:=Int.pow_pos (by decide)
 obtain ⟨m1,m2,m3⟩:=zr9 s
 have hF:∀ w,memL (imgF p.drop.toNat p.take.toNat (z4e (z0d s) (z0d topS)) []) w ↔ ∃ x,(memL s x∧0 ≤ x∧x ≤ 2097151)∧x / 2 ^ p.drop.toNat % 2 ^ p.take.toNat=w:=fun w=>by
   rw [zri _ _ (fun t ht=>(m2 t ht).2.1) (fun v hv=>absurd hv (z0z v))]
   simp only [z0z,false_or,m3]
 have hr:∀ w,memL (imgF p.drop.toNat p.take.toNat (z4e (z0d s) (z0d topS)) []) w→0 ≤ w∧w ≤ 2 ^ p.take.toNat - 1:=fun w hw=>by
   obtain ⟨x,_,rfl⟩:=(hF w).1 hw
   have q1:=Int.emod_nonneg (x / 2 ^ p.drop.toNat) (by omega:(2:Int) ^ p.take.toNat ≠ 0)
   have q2:=Int.emod_lt_of_pos (x / 2 ^ p.drop.toNat) hT
   omega
 unfold imgL
 rw [if_neg (by simp [hb])]
 split
 · rename_i hu
   refine ⟨(z0c _).1,fun v=>?_⟩
   rw [(z0c _).2 v,hF]
   have e:∀ x,valP p x=x / 2 ^ p.drop.toNat % 2 ^ p.take.toNat:=fun x=>by simp [valP,hu]
   constructor
   · rintro ⟨⟨x,⟨h1,h2⟩,h3⟩,_⟩
     exact ⟨x,h1,h2,by rw [e];exact h3⟩
   · rintro ⟨x,h1,h2,h3⟩
     rw [e] at h3
     have:=hr v ((hF v).2 ⟨x,⟨h1,h2⟩,h3⟩)
     exact ⟨⟨x,⟨h1,h2⟩,h3⟩,by omega⟩
 · rename_i hu
   refine ⟨(z0c _).1,fun v=>?_⟩
   rw [(z0c _).2 v,mem_map]
   constructor
   · rintro ⟨⟨n,hn,h1,h2⟩,_⟩
     simp only [oneS] at h1 h2
     have hn':=z6x.1 hn
     rw [(z0c _).2,(z0c _).2] at hn'
     obtain ⟨x,⟨k1,k2⟩,k3⟩:=(hF n).1 hn'.1.1
     exact ⟨x,k1,k2,by rw [valP,k3];omega⟩
   · rintro ⟨x,h1,h2,h3⟩
     have hv:=z3l hb h2
     have hm:=(hF (x / 2 ^ p.drop.toNat % 2 ^ p.take.toNat)).2 ⟨x,⟨h1,h2⟩,rfl⟩
     have:=hr _ hm
     refine ⟨⟨x / 2 ^ p.drop.toNat % 2 ^ p.take.toNat,z6x.2 ?_,?_⟩,by omega⟩
     · rw [(z0c _).2,(z0c _).2]
       exact ⟨⟨hm,by omega⟩,by omega⟩
     · rw [valP] at h3
       simp only [oneS]
       omega
def Full (l:List Span):Prop:=∀ s ∈ l,s.lo ≤ s.hi
theorem zyn {a b:List Span} (ha:Full a) (hb:Full b):Plain (zmi a b)∧∀ v,memL (zmi a b) v ↔ (∃ x y,memL a x∧memL b y∧x + y=v)∧-1073741824 ≤ v∧v ≤ 1073741824:=by
 refine ⟨(z0c _).1,fun v=>?_⟩
 rw [zmi,(z0c _).2 v,zom,zra]
 refine and_congr_left fun _=>?_
 constructor
 · rintro ⟨s,hs,h⟩
   obtain ⟨r,hr,h1,h2⟩:=mem_map.1 h
   simp only [sumS] at h1 h2
   have k1:=ha s hs
   have k2:=hb r hr
   refine ⟨max s.lo (v - r.hi),v - max s.lo (v - r.hi),⟨s,hs,by omega,by omega⟩,⟨r,hr,by omega,by omega⟩,by omega⟩
 · rintro ⟨x,y,⟨s,hs,h1,h2⟩,⟨r,hr,h3,h4⟩,rfl⟩
   exact ⟨s,hs,mem_map.2 ⟨r,hr,by simp only [sumS];omega,by simp only [sumS];omega⟩⟩
theorem zyo {out:List Span} {n:Int} (h:Full out):Full (addS out ⟨n,n⟩)∧∀ v,memL (addS out ⟨n,n⟩) v ↔ memL out v ∨ v=n:=by
 rcases z3k out with rfl|⟨m,y,rfl⟩
 · refine ⟨fun s hs=>?_,fun v=>?_⟩
   · simp only [z5c,List.mem_singleton] at hs;subst hs;simp
   · rw [z5c,z0e];simp only [z0z,or_false,false_or];omega
 · have hy:=h y (by simp)
   rw [z6h]
   simp only
   split
   · rename_i he
     refine ⟨fun s hs=>?_,fun v=>?_⟩
     · rcases List.mem_append.1 hs with hs|hs
       · exact h s (by simp [hs])
       · simp only [List.mem_singleton] at hs;subst hs;simp only;omega
     · rw [z3o,z3o,z0e,z0e]
       simp only [z0z,or_false]
       constructor
       · rintro (h1|h1)
         · exact .inl (.inl h1)
         · by_cases hv:v=n
           · exact .inr hv
           · exact .inl (.inr (by omega))
       · rintro ((h1|h1)|h1)
         · exact .inl h1
         · exact .inr (by omega)
         · exact .inr (by omega)
   · refine ⟨fun s hs=>?_,fun v=>?_⟩
     · rcases List.mem_append.1 hs with hs|hs
       · exact h s hs
       · simp only [List.mem_singleton] at hs;subst hs;simp
     · rw [z3o,z0e]
       simp only [z0z,or_false]
       have:(n ≤ v∧v ≤ n) ↔ v=n:=by omega
       rw [this]
theorem zrk (l:List Part) {v:Int}:∀ (m:List Int) (out:List Span),Full out→(memL (m.foldl (togF l) out) v ↔ memL out v ∨ ∃ x ∈ m,totV l x=v)
 | [],out,_=>by simp
 | x :: m,out,h=>by
   obtain ⟨h1,h2⟩:=zyo (n:=totV l x) h
   rw [List.foldl_cons,togF,zrk l m _ h1,h2]
   simp only [List.mem_cons,exists_eq_or_imp]
   constructor
   · rintro ((h|h)|h)
     · exact .inl h
     · exact .inr (.inl h.symm)
     · exact .inr (.inr h)
   · rintro (h|h|h)
     · exact .inl (.inl h)
     · exact .inl (.inr h.symm)
     · exact .inr h
theorem y36 {l:List Part} {s:List Span} (hl:l.length ≤ 4) (hb:∀ p ∈ l,z2s p=true) (hs:Syms s):Plain (togL l s)∧∀ v,memL (togL l s) v ↔ ∃ x,memL s x∧totV l x=v:=by
 unfold togL
 split
 · rename_i h1
   obtain ⟨p,rfl⟩:=List.length_eq_one_iff.1 h1
   obtain ⟨i1,i2⟩:=zrj s (hb p (by simp))
   refine ⟨i1,fun v=>?_⟩
   have e:nth [p] 0=p:=rfl
   rw [e,i2]
   have e2:∀ x,totV [p] x=valP p x:=fun x=>by simp [totV]
   constructor
   · rintro ⟨x,h1,_,h3⟩;exact ⟨x,h1,by rw [e2];exact h3⟩
   · rintro ⟨x,h1,h3⟩
     have:=hs.mem h1
     exact ⟨x,h1,by omega,by rw [← e2];exact h3⟩
 · refine ⟨(z0c _).1,fun v=>?_⟩
   rw [(z0c _).2 v,zrk l _ _ (fun s hs=>by cases hs),zml hs]
   simp only [z0z,false_or,z6x]
   constructor
   · rintro ⟨h,_⟩;exact h
   · rintro ⟨x,h1,rfl⟩
     have:=hs.mem h1
     have:=z7p (x:=x) (by omega) hb
     exact ⟨⟨x,h1,rfl⟩,by omega⟩
def Win (sets:List (List Span)) (w:List Int):Prop:=w.length=sets.length∧∀ i,i < sets.length→memL (nth sets i) (nth w i)
def zbf (l:List Part) (pl:List Int) (w:List Int):Int:=(pl.map fun a=>totV (atL l a) (nth w a.toNat)).sum
def totW (w:List Int) (l:List Part):Int:=(l.map fun p=>valP p (nth w p.at_.toNat)).sum
theorem zbg {w:List Int} {i j:Nat} {x:Int} (h:i < w.length):nth (w.set i x) j=if j=i then x else nth w j:=by
 simp only [nth,List.getD_eq_getElem?_getD,List.getElem?_set]
 split
 · subst_vars;simp [h]
 · rename_i hne;rw [if_neg (fun e=>hne e.symm)]
theorem z6z {α:Type} {f g:α→Int}:∀ {l:List α},(∀ a ∈ l,f a=g a)→(l.map f).sum=(l.map g).sum
 | [],_=>rfl
 | a :: l,h=>by simp [h a (by simp),z6z (l:=l) fun b hb=>h b (by simp [hb])]
theorem zf5 {α:Type} {f g:α→Int}:∀ {l:List α},(l.map fun a=>f a + g a).sum=(l.map f).sum + (l.map g).sum
 | []=>rfl
 | a :: l=>by
   have:=zf5 (f:=f) (g:=g) (l:=l)
   simp only [List.map_cons,List.sum_cons,this]
   omega
theorem z7r {α:Type} {f:α→Int}:∀ {l:List α},(∀ a ∈ l,f a=0)→(l.map f).sum=0
 | [],_=>rfl
 | a :: l,h=>by simp [h a (by simp),z7r (l:=l) fun b hb=>h b (by simp [hb])]
theorem zf6 {c:Int} {g:Int→Int}:∀ {l:List Int},l.Nodup→c ∈ l→(l.map fun a=>if c=a then g a else 0).sum=g c
 | [],_,h=>by cases h
 | a :: l,hn,h=>by
   obtain ⟨h1,h2⟩:=List.nodup_cons.1 hn
   by_cases e:c=a
   · subst e
     have:(l.map fun a=>if c=a then g a else 0).sum=0:=z7r fun b hb=>if_neg fun (e2:c=b)=>h1 (by rw [e2];exact hb)
     simp [this]
   · have hm:c ∈ l:=by simpa [e] using h
     simp [e,zf6 h2 hm]
theorem z8e (w:List Int):∀ (l:List Part) (pl:List Int),pl.Nodup→(∀ p ∈ l,p.at_ ∈ pl)→zbf l pl w=totW w l
 | [],pl,_,_=>z7r fun a _=>rfl
 | p :: l,pl,hn,h=>by
   have ih:=z8e w l pl hn fun q hq=>h q (by simp [hq])
   have e:∀ a ∈ pl,totV (atL (p :: l) a) (nth w a.toNat)=(if p.at_=a then valP p (nth w a.toNat) else 0) + totV (atL l a) (nth w a.toNat):=fun a _=>by
     simp only [atL,List.filter_cons,decide_eq_true_eq]
     split
     · simp [totV]
     · simp [totV]
   rw [zbf,z6z e,zf5,zf6 (g:=fun a=>valP p (nth w a.toNat)) hn (h p (by simp))]
   rw [zbf] at ih
   rw [ih]
   simp [totW]
theorem zf7:∀ (l:List Part) (pl:List Int),pl.Nodup→(l.foldl z1r pl).Nodup∧(∀ a,a ∈ l.foldl z1r pl ↔ a ∈ pl ∨ ∃ p ∈ l,p.at_=a)∧(l.foldl z1r pl).length ≤ pl.length + l.length
 | [],pl,h=>⟨h,fun a=>by simp,by simp⟩
 | p :: l,pl,h=>by
   have h1:(z1r pl p).Nodup∧(∀ a,a ∈ z1r pl p ↔ a ∈ pl ∨ p.at_=a)∧(z1r pl p).length ≤ pl.length + 1:=by
     unfold z1r
     split
     · rename_i hm
       exact ⟨h,fun a=>⟨.inl,fun hh=>hh.elim id fun e=>e ▸ hm⟩,by omega⟩
     · rename_i hm
       refine ⟨List.nodup_append.2 ⟨h,by simp,fun a ha b hb=>?_⟩,fun a=>by simp [eq_comm],by simp⟩
       simp only [List.mem_singleton] at hb
       subst hb
       exact fun e=>hm (e ▸ ha)
   obtain ⟨k1,k2,k3⟩:=zf7 l (z1r pl p) h1.1
   refine ⟨k1,fun a=>?_,by have:=h1.2.2;simp only [List.foldl_cons,List.length_cons];omega⟩
   rw [List.foldl_cons,k2,h1.2.1]
   simp only [List.mem_cons,exists_eq_or_imp,or_assoc]
theorem zhc {l:List Span} (h:Plain l):Full l:=h.1
theorem zyp {sets:List (List Span)} {w:List Int} {a:Nat} {x:Int} (hw:Win sets w) (ha:a < sets.length) (hx:memL (nth sets a) x):Win sets (w.set a x):=by
 refine ⟨by simp [hw.1],fun i hi=>?_⟩
 rw [zbg (by rw [hw.1];exact ha)]
 split
 · subst_vars;exact hx
 · exact hw.2 i hi
theorem zmn {l:List Part} {sets:List (List Span)} (hS:z2d l sets) (hl:l.length ≤ 4) (hne:∃ w,Win sets w):∀ (pl:List Int) (out:List Span),pl.Nodup→(∀ a ∈ pl,0 ≤ a∧a < sets.length)→Full out→pl.length ≤ 4 →
   (∀ v,memL out v→-1114111 ≤ v∧v ≤ 1114111 + (4 - (pl.length:Int)) * 264241152)→Full (pl.foldl (z0u l sets) out)∧∀ v,memL (pl.foldl (z0u l sets) out) v ↔ ∃ o w,memL out o∧Win sets w∧o + zbf l pl w=v
 | [],out,_,_,hf,_,_=>⟨hf,fun v=>by
   obtain ⟨w,hw⟩:=hne
   simp only [List.foldl_nil,zbf,List.map_nil,List.sum_nil,Int.add_zero]
   exact ⟨fun h=>⟨v,w,h,hw,rfl⟩,fun ⟨o,_,h,_,e⟩=>e ▸ h⟩⟩
 | a :: pl,out,hn,hp,hf,hlen,hb=>by
   obtain ⟨n1,n2⟩:=List.nodup_cons.1 hn
   have ha:=hp a (by simp)
   have hm:nth sets a.toNat ∈ sets:=z0i (by omega)
   have hsy:=hS.syms _ hm
   have hbits:∀ p ∈ atL l a,z2s p=true:=fun p hp=>by
     have:=hS.parts p ((List.mem_filter.1 hp).1)
     simp only [z2y,Bool.and_eq_true] at this
     exact this.2
   have hla:(atL l a).length ≤ 4:=Nat.le_trans (List.length_filter_le _ _) hl
   obtain ⟨t1,t2⟩:=y36 hla hbits hsy
   obtain ⟨p1,p2⟩:=zyn hf (zhc t1)
   have htot:∀ x,memL (nth sets a.toNat) x→0 ≤ totV (atL l a) x∧totV (atL l a) x ≤ 264241152:=fun x hx=>by
     have:=hsy.mem hx
     have:=z7p (x:=x) (by omega) hbits
     omega
   simp only [List.length_cons] at hlen hb
   have hv:∀ v,memL (z0u l sets out a) v ↔ ∃ o x,memL out o∧memL (nth sets a.toNat) x∧o + totV (atL l a) x=v:=fun v=>by
     rw [z0u,p2]
     constructor
     · rintro ⟨⟨o,y,h1,h2,h3⟩,_⟩
       obtain ⟨x,k1,k2⟩:=(t2 y).1 h2
       exact ⟨o,x,h1,k1,by rw [k2];exact h3⟩
     · rintro ⟨o,x,h1,h2,rfl⟩
       have:=hb o h1
       have:=htot x h2
       push_cast at *
       exact ⟨⟨o,_,h1,(t2 _).2 ⟨x,h2,rfl⟩,rfl⟩,by omega,by omega⟩
   obtain ⟨i1,i2⟩:=zmn hS hl hne pl (z0u l sets out a) n2 (fun b hb=>hp b (by simp [hb])) (zhc p1) (by omega) (fun v h=>by
     obtain ⟨o,x,h1,h2,rfl⟩:=(hv v).1 h
     have:=hb o h1
     have:=htot x h2
     push_cast at *
     omega)
   refine ⟨i1,fun v=>?_⟩
   rw [List.foldl_cons,i2]
   constructor
   · rintro ⟨u,w,h1,hw,rfl⟩
     obtain ⟨o,x,k1,k2,rfl⟩:=(hv u).1 h1
     refine ⟨o,w.set a.toNat x,k1,zyp hw (by omega) k2,?_⟩
     have e1:zbf l pl (w.set a.toNat x)=zbf l pl w:=z6z fun b hb=>by
       have:=hp b (by simp [hb])
       rw [zbg (by rw [hw.1];omega),if_neg]
       intro e
       exact n1 ((show b=a by omega) ▸ hb)
     have e2:zbf l (a :: pl) (w.set a.toNat x)=totV (atL l a) x + zbf l pl (w.set a.toNat x):=by
       simp only [zbf,List.map_cons,List.sum_cons]
       rw [zbg (by rw [hw.1];omega),if_pos rfl]
     rw [e2,e1]
     omega
   · rintro ⟨o,w,h1,hw,rfl⟩
     have hx:=hw.2 a.toNat (by omega)
     refine ⟨o + totV (atL l a) (nth w a.toNat),w,(hv _).2 ⟨o,_,h1,hx,rfl⟩,hw,?_⟩
     simp only [zbf,List.map_cons,List.sum_cons]
     omega
theorem y37 (x:Int):Full [⟨x,x⟩]:=fun s hs=>by simp only [List.mem_singleton] at hs;subst hs;simp
theorem zow {x v:Int}:memL [⟨x,x⟩] v ↔ v=x:=by rw [z0e];simp only [z0z,or_false];omega
theorem zyq {t:Term} {sets:List (List Span)} (hS:z2d t.parts sets) (hl:t.parts.length ≤ 4) (hs:z1p t.sum=true) (hne:∃ w,Win sets w):Full (z0o t sets)∧∀ v,memL (z0o t sets) v ↔ ∃ w,Win sets w∧t.sum + totW w t.parts=v:=by
 obtain ⟨k1,k2,k3⟩:=zf7 t.parts [] (by simp)
 have hsm:=z4a hs
 simp only [List.length_nil] at k3
 have hat:∀ a,a ∈ z1t t.parts→0 ≤ a∧a < sets.length:=fun a ha=>by
   obtain h|⟨p,hp,rfl⟩:=(k2 a).1 ha
   · cases h
   · exact z08 (hS.parts p hp)
 obtain ⟨h1,h2⟩:=zmn hS hl hne (z1t t.parts) [⟨t.sum,t.sum⟩] k1 hat (y37 _) (by rw [z1t];omega) (fun v hv=>by
   rw [zow] at hv
   have:(z1t t.parts).length ≤ 4:=by rw [z1t];omega
   omega)
 refine ⟨h1,fun v=>?_⟩
 rw [z0o,h2]
 constructor
 · rintro ⟨o,w,e,hw,rfl⟩
   rw [zow] at e
   exact ⟨w,hw,by rw [e,z1t,z8e w _ _ k1 fun p hp=>(k2 _).2 (.inr ⟨p,hp,rfl⟩)]⟩
 · rintro ⟨w,hw,rfl⟩
   exact ⟨_,w,zow.2 rfl,hw,by rw [z1t,z8e w _ _ k1 fun p hp=>(k2 _).2 (.inr ⟨p,hp,rfl⟩)]⟩
theorem zox {w:List Int} {n:Int}:∀ {l:List Part},(∀ p ∈ l,z2y p n=true)→(∀ p ∈ l,0 ≤ nth w p.at_.toNat∧nth w p.at_.toNat ≤ 1114111)→totP w l=totW w l∧0 ≤ totW w l∧totW w l ≤ l.length * 66060288
 | [],_,_=>by simp [totP,totW]
 | p :: l,h,hx=>by
   obtain ⟨i1,i2,i3⟩:=zox (l:=l) (fun q hq=>h q (by simp [hq])) (fun q hq=>hx q (by simp [hq]))
   have hr:=h p (by simp)
   simp only [z2y,Bool.and_eq_true] at hr
   have hxp:=hx p (by simp)
   have hv:=z3l hr.2 (x:=nth w p.at_.toNat) (by omega)
   have e1:val1 p (nth w p.at_.toNat)=valP p (nth w p.at_.toNat):=(zb2 hr.2 (by omega)).2
   have e2:totW w (p :: l)=valP p (nth w p.at_.toNat) + totW w l:=by simp [totW]
   rw [totP,e1,e2,i1]
   refine ⟨rfl,by omega,?_⟩
   push_cast [List.length_cons]
   omega
theorem z6j {t:Term} {sets:List (List Span)} {w:List Int} (hS:z2d t.parts sets) (hn:z1s t=true) (hw:Win sets w) :
   z73 t w=if 0 ≤ t.sum + totW w t.parts∧t.sum + totW w t.parts ≤ 1114111 then some (t.base + valP t.outer (t.sum + totW w t.parts)) else none:=by
 simp only [z1s,Bool.and_eq_true,decide_eq_true_eq] at hn
 obtain ⟨⟨⟨hb,hs⟩,ho⟩,_,hl⟩:=hn
 have hsm:=z4a hs
 have hbm:=z4a hb
 have hsym:∀ i,i < sets.length→0 ≤ nth w i∧nth w i ≤ 1114111:=fun i hi=>(hS.syms _ (z0i hi)).mem (hw.2 i hi)
 obtain ⟨e1,b1,b2⟩:=zox (w:=w) hS.parts (fun p hp=>by
   have:=z08 (hS.parts p hp)
   exact hsym _ (by omega))
 have hall:w.all symB=true:=by
   rw [List.all_eq_true]
   intro x hx
   obtain ⟨i,hi,rfl⟩:=List.getElem_of_mem hx
   have:=hsym i (by rw [← hw.1];exact hi)
   have e:nth w i=w[i]:=by simp [nth,hi]
   rw [e] at this
   simp [symB];omega
 have hright:zb3 w t.parts=true:=by
   rw [zb3,List.all_eq_true]
   intro p hp
   rw [hw.1]
   exact hS.parts p hp
 have hsum:=zxg w t.parts t.sum (y7x (by omega))
 rw [if_pos hright,e1,y7x (by omega)] at hsum
 unfold z73
 rw [if_pos hall,hsum]
 simp only
 by_cases h:0 ≤ t.sum + totW w t.parts∧t.sum + totW w t.parts ≤ 1114111
 · have hvb:valB t.outer (t.sum + totW w t.parts)=true:=(zb2 ho (by omega)).1
   have hv2:=z3l ho (x:=t.sum + totW w t.parts) (by omega)
   rw [if_pos h,if_pos (by simp [hvb];omega),show IntKind.i64.wrap (t.base + valP t.outer (t.sum + totW w t.parts))=t.base + valP t.outer (t.sum + totW w t.parts) from IntWalk.i64_in _ (by omega)]
 · rw [if_neg h,if_neg]
   simp only [valB,ho,Bool.true_and,Bool.and_eq_true,decide_eq_true_eq]
   omega
theorem zhd:∀ {m:List Span},Plain m→m ≠ []→∃ a b,zmh m=some a∧zok m=some b∧memL m a∧memL m b∧∀ v,memL m v→a ≤ v∧v ≤ b
 | [],_,h=>absurd rfl h
 | [s],h,_=>by
   have:=h.head
   refine ⟨s.lo,s.hi,rfl,rfl,z0e.2 (.inl (by omega)),z0e.2 (.inl (by omega)),fun v hv=>?_⟩
   rw [z0e] at hv
   simpa [z0z] using hv
 | s :: r :: m,h,_=>by
   have hs:=h.head
   obtain ⟨a,b,e1,e2,h1,h2,h3⟩:=zhd h.tail (by simp)
   have hb:=h.after h2
   refine ⟨s.lo,b,rfl,?_,z0e.2 (.inl (by omega)),z0e.2 (.inr h2),fun v hv=>?_⟩
   · simpa [zok] using e2
   · rcases z0e.1 hv with h4|h4
     · omega
     · have:=h.after h4
       have:=h3 v h4
       omega
theorem z9c {l:List Span} {v:Int} (h:memL l v):l ≠ []:=by rintro rfl;exact z0z v h
theorem zu8 {l:List Span} {u:Int} (hu:memL l u) (hb:∀ v,memL l v→-1073741824 ≤ v∧v ≤ 1073741824):z1u l=true ↔ ∀ v,memL l v→0 ≤ v∧v ≤ 1114111:=by
 obtain ⟨p1,p2⟩:=z0c l
 have hm:∀ v,memL (z0d l) v ↔ memL l v:=fun v=>by rw [p2];exact ⟨fun h=>h.1,fun h=>⟨h,hb v h⟩⟩
 obtain ⟨a,b,e1,e2,h1,h2,h3⟩:=zhd p1 (z9c ((hm u).2 hu))
 have hl:0 < (l.length:Int):=by
   have:=List.length_pos_iff.2 (z9c hu)
   omega
 simp only [z1u,e1,e2,Option.getD_some,Bool.and_eq_true,decide_eq_true_eq]
 constructor
 · rintro ⟨_,k1,k2⟩ v hv
   have:=h3 v ((hm v).2 hv)
   omega
 · intro h
   exact ⟨hl,(h a ((hm a).1 h1)).1,(h b ((hm b).1 h2)).2⟩
theorem zrl {gs:List (List Span)}:zbd gs gs.length=true ↔ ∃ w,Win (gs.map symI) w:=by
 rw [zbd,List.take_length,List.all_eq_true]
 constructor
 · intro h
   refine ⟨(gs.map symI).map fun s=>(nth s 0).lo,by simp,fun i hi=>?_⟩
   have hi':i < gs.length:=by simpa using hi
   have h1:=h _ (z0i hi')
   have e1:nth (gs.map symI) i=symI (nth gs i):=by simp [nth,hi']
   have e2:nth ((gs.map symI).map fun s=>(nth s 0).lo) i=(nth (symI (nth gs i)) 0).lo:=by simp [nth,hi']
   rw [e1,e2]
   simp only [decide_eq_true_eq] at h1
   have hm:=z0i (l:=symI (nth gs i)) (i:=0) (by omega)
   have hs:=(zmf (nth gs i)).2 _ hm
   exact ⟨_,hm,by omega,by omega⟩
 · rintro ⟨w,hw⟩ g hg
   obtain ⟨i,hi,rfl⟩:=List.getElem_of_mem hg
   have h1:=hw.2 i (by simpa using hi)
   have e1:nth (gs.map symI) i=symI gs[i]:=by simp [nth,hi]
   rw [e1] at h1
   have:=List.length_pos_iff.2 (z9c h1)
   simp only [decide_eq_true_eq]
   omega
theorem zu9 {t:Term} {gs:List (List Span)} (h4:gs.length ≤ 4) (hn:z1s t=true) (hp:prtB t gs.length=true) :
   ((z43 t gs).2=true ↔ ∀ w,Win (gs.map symI) w→(z73 t w).isSome=true)∧((z43 t gs).2=false→(z43 t gs).1=[]) ∧
   ((z43 t gs).2=true→Plain (z43 t gs).1∧∀ v,memL (z43 t gs).1 v ↔ ∃ w,Win (gs.map symI) w∧z73 t w=some v):=by
 have hS:=z8b hp h4
 have hnum:=hn
 simp only [z1s,Bool.and_eq_true,decide_eq_true_eq] at hnum
 obtain ⟨⟨⟨hb,hs⟩,ho⟩,_,hl⟩:=hnum
 have hsm:=z4a hs
 have hbm:=z4a hb
 have hI:z42 t gs=if zbd gs gs.length=false then ([],true) else (z0o t (gs.map symI),z1u (z0o t (gs.map symI))):=by
   rw [z42,if_neg (by simp [hn];omega),if_neg (by simp [hp])]
 have hsome:=@zrl gs
 cases hB:zbd gs gs.length
 · rw [hB] at hI hsome
   have hno:∀ w,¬ Win (gs.map symI) w:=fun w hw=>by have:=hsome.2 ⟨w,hw⟩;cases this
   have e:z43 t gs=([],true):=by rw [z43,hI];simp
   rw [e]
   refine ⟨⟨fun _ w hw=>absurd hw (hno w),fun _=>rfl⟩,fun h=>(by cases h),fun _=>⟨⟨by simp,by simp⟩,fun v=>⟨fun h=>absurd h (z0z v),fun ⟨w,hw,_⟩=>absurd hw (hno w)⟩⟩⟩
 · rw [hB] at hI hsome
   obtain ⟨w0,hw0⟩:=hsome.1 rfl
   obtain ⟨v1,v2⟩:=zyq hS hl hs ⟨w0,hw0⟩
   have hbd:∀ w,Win (gs.map symI) w→0 ≤ totW w t.parts∧totW w t.parts ≤ 264241152:=fun w hw=>by
     obtain ⟨_,b1,b2⟩:=zox (w:=w) hS.parts (fun p hp=>by
       have:=z08 (hS.parts p hp)
       exact (hS.syms _ (z0i (by omega))).mem (hw.2 _ (by omega)))
     omega
   have hin:=zu8 ((v2 _).2 ⟨w0,hw0,rfl⟩) (fun v hv=>by
     obtain ⟨w,hw,rfl⟩:=(v2 v).1 hv
     have:=hbd w hw
     omega)
   have hin2:z1u (z0o t (gs.map symI))=true ↔ ∀ w,Win (gs.map symI) w→(z73 t w).isSome=true:=by
     rw [hin]
     constructor
     · intro h w hw
       rw [z6j hS hn hw,if_pos (h _ ((v2 _).2 ⟨w,hw,rfl⟩))]
       rfl
     · intro h v hv
       obtain ⟨w,hw,rfl⟩:=(v2 v).1 hv
       have:=h w hw
       rw [z6j hS hn hw] at this
       split at this
       · assumption
       · cases this
   have hne:(z0o t (gs.map symI)).length ≠ 0:=fun h=>z9c ((v2 _).2 ⟨w0,hw0,rfl⟩) (List.eq_nil_of_length_eq_zero h)
   cases hi:z1u (z0o t (gs.map symI))
   · have e:z43 t gs=([],false):=by rw [z43,hI];simp [hi]
     rw [e]
     rw [hi] at hin2
     exact ⟨hin2,fun _=>rfl,fun h=>by cases h⟩
   · have e:z43 t gs=(z3m (imgL t.outer (z0o t (gs.map symI))) t.base,true):=by
       rw [z43,hI]
       simp [hi,hne]
     rw [e]
     rw [hi] at hin2
     refine ⟨hin2,fun h=>(by cases h),fun _=>⟨?_,fun v=>?_⟩⟩
     · unfold z3m
       split
       · exact ⟨by simp,by simp⟩
       · exact (z0c _).1
     · obtain ⟨_,i2⟩:=zrj (z0o t (gs.map symI)) ho
       rw [zjh (by omega),i2]
       constructor
       · rintro ⟨⟨⟨x,h1,h2,h3⟩,_⟩,_⟩
         obtain ⟨w,hw,rfl⟩:=(v2 x).1 h1
         have hv:=hin.1 hi _ h1
         exact ⟨w,hw,by rw [z6j hS hn hw,if_pos hv,h3];congr 1;omega⟩
       · rintro ⟨w,hw,h⟩
         have hm:=(v2 _).2 ⟨w,hw,rfl⟩
         have hv:=hin.1 hi _ hm
         rw [z6j hS hn hw,if_pos hv] at h
         have hvs:=z3l ho (x:=t.sum + totW w t.parts) (by omega)
         simp only [Option.some.injEq] at h
         exact ⟨⟨⟨_,hm,by omega,by omega⟩,by omega⟩,by omega⟩
def zf8 (s x:Int):Bool:=decide ((s=1∧0 ≤ x∧x < 256) ∨ (s=2∧0 ≤ x∧x < 1114112∧(x < 55296 ∨ 57344 ≤ x)))
def fitW (t:Term) (o:Int) (w:List Int):Bool:=match z73 t w with
 | some v=>decide (0 ≤ v∧v ≤ 1114111) && zf8 o v
 | none=>false
theorem win_cons {g:List Span} {gs:List (List Span)} {w:List Int}:Win (g :: gs) w ↔ ∃ x r,w=x :: r∧memL g x∧Win gs r:=by
 constructor
 · rintro ⟨h1,h2⟩
   cases w with
   | nil=>simp at h1
   | cons x r =>
     refine ⟨x,r,rfl,?_,by simpa using h1,fun i hi=>?_⟩
     · exact h2 0 (by simp)
     · exact h2 (i + 1) (by simp;omega)
 · rintro ⟨x,r,rfl,h1,h2⟩
   refine ⟨by simp [h2.1],fun i hi=>?_⟩
   cases i with
   | zero=>exact h1
   | succ i=>exact h2.2 i (by simp at hi;omega)
theorem y8d {w:List Int}:Win [] w ↔ w=[]:=by
 constructor
 · rintro ⟨h,_⟩;exact List.eq_nil_of_length_eq_zero h
 · rintro rfl;exact ⟨rfl,fun i hi=>by simp at hi⟩
theorem zyr {l:List Span} {v:Int} (h:-1073741824 ≤ v∧v ≤ 1073741824):hasI l v=true ↔ memL l v:=by
 rw [z5b];exact ⟨fun h=>h.2.2,fun hm=>⟨h.1,h.2,hm⟩⟩
theorem z9d {o v:Int}:memL (domL o) v ↔ zf8 o v=true:=by
 unfold domL
 simp only [zf8,decide_eq_true_eq]
 split
 · rw [z0e];simp only [z0z,or_false];omega
 · split
   · rw [z0e,z0e];simp only [z0z,or_false];omega
   · simp only [z0z,false_iff];omega
theorem zcx {o v:Int} (h:zf8 o v=true):0 ≤ v∧v ≤ 1114111:=by
 simp only [zf8,decide_eq_true_eq] at h;omega
theorem z6k {l d:List Span} (hl:∀ v,memL l v→-1073741824 ≤ v∧v ≤ 1073741824) (hp:Full l):z48 l d=[] ↔ ∀ v,memL l v→memL d v:=by
 obtain ⟨m1,m2⟩:=zgz l d
 constructor
 · intro h v hv
   rw [h] at m2
   exact Classical.byContradiction fun hn=>z0z v ((m2 v).2 ⟨hv,hl v hv,hn⟩)
 · intro h
   cases hm:z48 l d with
   | nil=>rfl
   | cons s r =>
     rw [hm] at m1 m2
     obtain ⟨a,_,c⟩:=(m2 s.lo).1 (z0e.2 (.inl ⟨Int.le_refl _,m1.1 s (by simp)⟩))
     exact absurd (h _ a) c
theorem z4g {t:Term} {i o n:Int} (h:z4h t i o n=true):z1s t=true∧prtB t n=true:=by
 simp only [z4h,z2t,Bool.and_eq_true] at h
 obtain ⟨⟨⟨⟨_,hn⟩,hr⟩,_⟩,_⟩:=h
 refine ⟨hn,?_⟩
 rw [prtB,List.all_eq_true]
 intro p hp
 have:=List.all_eq_true.1 hr p hp
 simp only [Bool.and_eq_true] at this
 exact this.1
theorem zrm {t:Term} {gs:List (List Span)} (h4:gs.length ≤ 4) (hn:z1s t=true) (hp:prtB t gs.length=true) {w:List Int} {v:Int} (hw:Win (gs.map symI) w) (hv:z73 t w=some v):-1073741824 ≤ v∧v ≤ 1073741824:=by
 have hnum:=hn
 simp only [z1s,Bool.and_eq_true,decide_eq_true_eq] at hnum
 have hbm:=z4a hnum.1.1.1
 rw [z6j (z8b hp h4) hn hw] at hv
 split at hv
 · have:=z3l hnum.1.2 (x:=t.sum + totW w t.parts) (by omega)
   simp only [Option.some.injEq] at hv
   omega
 · cases hv
theorem zmo {t:Term} {i o:Int} {gs:List (List Span)} (h4:gs.length ≤ 4):zcn t i o gs=true ↔ z4h t i o gs.length=true∧∀ w,Win (gs.map symI) w→fitW t o w=true:=by
 rw [zcn,Bool.and_eq_true,Bool.and_eq_true,decide_eq_true_eq]
 refine and_congr_right fun hr=>?_
 obtain ⟨hn,hp⟩:=z4g hr
 obtain ⟨s1,s2,s3⟩:=zu9 h4 hn hp
 constructor
 · rintro ⟨hi,hm⟩ w hw
   obtain ⟨p1,p2⟩:=s3 hi
   rw [z6k (fun v hv=>by obtain ⟨w,h1,h2⟩:=(p2 v).1 hv;exact zrm h4 hn hp h1 h2) p1.1] at hm
   have hv:=y21 (s1.1 hi w hw)
   have:=z9d.1 (hm _ ((p2 _).2 ⟨w,hw,hv⟩))
   have hb:=zcx this
   rw [fitW,hv]
   simp [hb,this]
 · intro h
   have hi:(z43 t gs).2=true:=s1.2 fun w hw=>by
     have:=h w hw
     rw [fitW] at this
     cases hv:z73 t w with
     | none=>rw [hv] at this;cases this
     | some v=>rfl
   obtain ⟨p1,p2⟩:=s3 hi
   refine ⟨hi,(z6k (fun v hv=>by obtain ⟨w,h1,h2⟩:=(p2 v).1 hv;exact zrm h4 hn hp h1 h2) p1.1).2 fun v hv=>?_⟩
   obtain ⟨w,h1,h2⟩:=(p2 v).1 hv
   have:=h w h1
   rw [fitW,h2] at this
   simp only [Bool.and_eq_true] at this
   exact z9d.2 this.2
def shR (n:Int) (r:Rule):Rule:=⟨r.from_ + n,r.to_ + n,r.guards,r.eat,r.out⟩
def shF (n:Int) (f:z4u):z4u:=⟨f.from_ + n,f.guards,f.out⟩
def z5p (a b:Desc):List Rule:=[⟨0,1 + a.start,[],0,[]⟩,⟨0,1 + a.states + b.start,[],0,[]⟩]
def z9e (a b:Desc):Desc:=⟨a.in_,a.out,1 + a.states + b.states,0,z5p a b ++ a.rules.map (shR 1) ++ b.rules.map (shR (1 + a.states)),a.finals.map (shF 1) ++ b.finals.map (shF (1 + a.states))⟩
theorem z8f {d:Desc} (h:z2r d=0):zex d=true∧(∀ r ∈ d.rules,z4f d r=true)∧∀ f ∈ d.finals,z2q d f=true:=by
 have h0:(z3v d).1=0:=by
   unfold z2r at h
   split at h
   · assumption
   · omega
 unfold z3v at h0
 split at h0
 · simp at h0
 · rename_i hh
   refine ⟨by simpa using hh,?_⟩
   split at h0
   · simp at h0
   · rename_i hr
     split at h0
     · simp at h0
     · rename_i hf
       exact ⟨z6i hr,z6i hf⟩
theorem z7s {d:Desc} {out:List Term} {gs:List (List Span)} (h:z2p d out gs=true):out.length ≤ 64∧∀ t ∈ out,t.parts.length ≤ 4:=by
 simp only [z2p,Bool.and_eq_true,decide_eq_true_eq] at h
 refine ⟨by omega,fun t ht=>?_⟩
 have:=List.all_eq_true.1 h.2 t ht
 simp only [zcn,Bool.and_eq_true] at this
 have h2:=(z4g this.1).1
 simp only [z1s,Bool.and_eq_true,decide_eq_true_eq] at h2
 exact h2.2.2
theorem z4n {α β:Type} [Inhabited α] (base:List β) (l:List α) (f:α→β):∃ g:Nat→List β,g 0=base∧(∀ k,k < l.length→g (k + 1)=g k ++ [f (nth l k)])∧g l.length=base ++ l.map f∧∀ k,(g k).length ≤ base.length + k :=
 ⟨fun k=>base ++ (l.take k).map f,by simp,fun k hk=>by simp only;rw [take_at hk];simp,by simp only;rw [List.take_length],fun k=>by simp;omega⟩
theorem zmp {d:Desc} {r:Rule} (h:z4f d r=true):(0 ≤ r.from_∧r.from_ < d.states)∧(0 ≤ r.to_∧r.to_ < d.states)∧PC Tryz.prog 27 [z0b r.guards] (z0b r.guards)∧PC Tryz.prog 28 [z3n r.out] (z3n r.out):=by
 have h0:=zf2 h
 simp only [z4f,Bool.and_eq_true] at h
 obtain ⟨g1,g2⟩:=z4i h.2.2.1
 obtain ⟨w1,w2⟩:=z7s h.2.2.2.2
 exact ⟨h0.1,h0.2,zf4 _ (by omega) fun g hg=>by have:=g2 g hg;omega,zhb _ (by omega) fun t ht=>by have:=w2 t ht;omega⟩
theorem zhe {d:Desc} {f:z4u} (h:z2q d f=true):(0 ≤ f.from_∧f.from_ < d.states)∧PC Tryz.prog 27 [z0b f.guards] (z0b f.guards)∧PC Tryz.prog 28 [z3n f.out] (z3n f.out):=by
 simp only [z2q,z5o,Bool.and_eq_true,decide_eq_true_eq] at h
 obtain ⟨g1,g2⟩:=z4i h.2.1
 obtain ⟨w1,w2⟩:=z7s h.2.2
 exact ⟨h.1,zf4 _ (by omega) fun g hg=>by have:=g2 g hg;omega,zhb _ (by omega) fun t ht=>by have:=w2 t ht;omega⟩
theorem zmq (a b:Desc) (ha:z4x a) (hb:z4x b) (ca:z2r a=0) (cb:z2r b=0) (hin:a.in_=b.in_) (hout:a.out=b.out) (h1:1 + a.states + b.states ≤ 1024) (h2:2 + a.rules.length + b.rules.length ≤ 4096) (h3:a.finals.length + b.finals.length ≤ 4096) :
   PC Tryz.prog 9 [z1j a,z1j b] (.tup [z1j (z9e a b),.int .i64 0]):=by
 have hCa:=z4y a ha
 have hCb:=z4y b hb
 rw [ca] at hCa
 rw [cb] at hCb
 obtain ⟨a1,a2,a3⟩:=z8f ca
 obtain ⟨b1,b2,b3⟩:=z8f cb
 have a4:=zjn a1
 have b4:=zjn b1
 have pa1:=z0v a.rules
 have pa2:=z0t a.finals
 have pb1:=z0v b.rules
 have pb2:=z0t b.finals
 refine z0s z96 ?_
 unfold z6t
 (repeat' (first|(simp (disch:=omega) only [push_cast,↓zz,seval,pa1,pa2,pb1,pb2,hin,hout])|(with_reducible first|refine And.intro ?_ ?_|(first|refine z01 ?_ ?_|refine z00 ?_ ?_)<;>intro hc<;>(try simp only [push_cast] at hc))|((with_reducible first|refine eK hCa ?_|refine eQ hCa ?_|refine eG hCa ?_))|((with_reducible first|refine eK hCb ?_|refine eQ hCb ?_|refine eG hCb ?_))|((with_reducible first|refine cK hCa ?_|refine cQ hCa ?_|refine cG hCa ?_);(simp (disch:=omega) only [push_cast,↓zz,seval,pa1,pa2,pb1,pb2,hin,hout]);(fail_if_success (with_reducible change False)))|((with_reducible first|refine cK hCb ?_|refine cQ hCb ?_|refine cG hCb ?_);(simp (disch:=omega) only [push_cast,↓zz,seval,pa1,pa2,pb1,pb2,hin,hout]);(fail_if_success (with_reducible change False)))|omega|with_reducible intro _))
 refine z0q 3 ?_
 (repeat' (first|(simp (disch:=omega) only [push_cast,↓zz,seval,pa1,pa2,pb1,pb2,hin,hout,Int.zero_mul,Int.one_mul,Int.add_zero])|(with_reducible first|refine And.intro ?_ ?_|(first|refine z01 ?_ ?_|refine z00 ?_ ?_)<;>intro hc<;>(try simp only [push_cast] at hc))|omega|with_reducible intro _))
 obtain ⟨g,g0,gs,ge0,gl⟩:=z4n (z5p a b) a.rules (shR 1)
 refine z0f (z0g (fun (k:Nat)=>k ≤ a.rules.length) (fun k=>a.rules.length - k) (fun k=>[(2,.ptr 0 1 0 0),(4,.ptr 1 1 0 0),(7,.ptr 2 1 0 0),(9,.ptr 3 1 0 0),(10,.int .i64 1),(89,.agg [.int .i64 a.in_,.int .i64 a.out,.int .i64 a.states,.int .i64 a.start,z3u a.rules,z4m a.finals,.int .i64 b.in_,.int .i64 b.out,.int .i64 b.states,.int .i64 b.start,z3u b.rules,z4m b.finals]),(90,.int .i64 0),(100,z3u a.rules),(101,.int .i64 a.rules.length),(102,.int .i64 k)]) (fun k=>[⟨6,1,true,[z1j a]⟩,⟨6,1,true,[.agg [.int .i64 0,.int .i64 0,.int .i64 0,.int .i64 0,.nilS,.nilS]]⟩,⟨6,1,true,[.agg [.int .i64 a.in_,.int .i64 a.out,.int .i64 (1 + a.states + b.states),.int .i64 0,.ref 4 1 0 (g k).length,.ref 5 1 0 (([]:List z4u)).length]]⟩,⟨6,1,true,[z1j a]⟩,⟨5,1,false,(g k).map z8n⟩,⟨3,1,false,(([]:List z4u)).map z65⟩]) (fun env H=>[z0k 6 (env 2),z0k 6 (env 4),z0k 6 (env 7),z0k 6 (env 9),z0k 5 (cellAt H (env 7) 4),z0k 3 (cellAt H (env 7) 5)]) 0 (by simp) ?_ ?_)
 · (repeat' (first|(simp (disch:=omega) only [push_cast,↓zz,seval,pa1,pa2,pb1,pb2,hin,hout,Int.zero_mul,Int.one_mul,Int.add_zero,g0,z5p])|(with_reducible first|refine And.intro ?_ ?_|(first|refine z01 ?_ ?_|refine z00 ?_ ?_)<;>intro hc<;>(try simp only [push_cast] at hc))|omega|with_reducible intro _))
 intro k hk
 have gk:=gl k
 have hbl:(z5p a b).length ≤ 2:=by simp [z5p]
 rcases Nat.lt_or_ge k a.rules.length with hkl|hkl
 · obtain ⟨d1,d2,d3,d4⟩:=zmp (a2 _ (z0i hkl))
   have e1:=gs k hkl
   generalize hre:nth a.rules k=r at *
   have hP:=z05 r.guards
   have hT:=z0w r.out
   have hpl:=z0v (g k)
   refine W_T ?_
   (repeat' (first|(simp (disch:=omega) only [push_cast,↓zz,seval,pa1,pa2,pb1,pb2,hin,hout,Int.zero_mul,Int.one_mul,Int.add_zero,hre,hP,hT,hpl])|(with_reducible first|refine And.intro ?_ ?_|(first|refine z01 ?_ ?_|refine z00 ?_ ?_)<;>intro hc<;>(try simp only [push_cast] at hc))|((with_reducible first|refine eK d3 ?_|refine eQ d3 ?_|refine eG d3 ?_))|((with_reducible first|refine eK d4 ?_|refine eQ d4 ?_|refine eG d4 ?_))|((with_reducible first|refine cK d3 ?_|refine cQ d3 ?_|refine cG d3 ?_);(simp (disch:=omega) only [push_cast,↓zz,seval,pa1,pa2,pb1,pb2,hin,hout,Int.zero_mul,Int.one_mul,Int.add_zero,hre,hP,hT,hpl]);(fail_if_success (with_reducible change False)))|((with_reducible first|refine cK d4 ?_|refine cQ d4 ?_|refine cG d4 ?_);(simp (disch:=omega) only [push_cast,↓zz,seval,pa1,pa2,pb1,pb2,hin,hout,Int.zero_mul,Int.one_mul,Int.add_zero,hre,hP,hT,hpl]);(fail_if_success (with_reducible change False)))|omega|with_reducible intro _))
   all_goals
     refine ⟨k + 1,?_⟩
     (repeat' (first|(simp (disch:=omega) only [push_cast,↓zz,seval,e1,shR,pa1,pa2,pb1,pb2,hin,hout,Int.zero_mul,Int.one_mul,Int.add_zero])|(with_reducible first|refine And.intro ?_ ?_|(first|refine z01 ?_ ?_|refine z00 ?_ ?_)<;>intro hc<;>(try simp only [push_cast] at hc))|omega|with_reducible intro _))
 have hke:k=a.rules.length:=by omega
 subst hke
 have hpl0:=z0v (g a.rules.length)
 have hll0:(g a.rules.length).length ≤ 5000:=by omega
 clear hk hkl gk gl gs g0 hbl
 generalize g a.rules.length=L0 at *
 refine W_T ?_
 (repeat' (first|(simp (disch:=omega) only [push_cast,↓zz,seval,pa1,pa2,pb1,pb2,hin,hout,Int.zero_mul,Int.one_mul,Int.add_zero,hpl0])|(with_reducible first|refine And.intro ?_ ?_|(first|refine z01 ?_ ?_|refine z00 ?_ ?_)<;>intro hc<;>(try simp only [push_cast] at hc))|omega|with_reducible intro _))
 obtain ⟨g,g0,gs,gf0,gl⟩:=z4n (([]:List z4u)) a.finals (shF 1)
 refine z0f (z0g (fun (k:Nat)=>k ≤ a.finals.length) (fun k=>a.finals.length - k) (fun k=>[(2,.ptr 0 1 0 0),(4,.ptr 1 1 0 0),(7,.ptr 2 1 0 0),(9,.ptr 3 1 0 0),(10,.int .i64 1),(89,.agg [.int .i64 a.in_,.int .i64 a.out,.int .i64 a.states,.int .i64 a.start,z3u a.rules,z4m a.finals,.int .i64 b.in_,.int .i64 b.out,.int .i64 b.states,.int .i64 b.start,z3u b.rules,z4m b.finals]),(90,.int .i64 0),(130,z4m a.finals),(131,.int .i64 a.finals.length),(132,.int .i64 k)]) (fun k=>[⟨6,1,true,[z1j a]⟩,⟨6,1,true,[.agg [.int .i64 0,.int .i64 0,.int .i64 0,.int .i64 0,.nilS,.nilS]]⟩,⟨6,1,true,[.agg [.int .i64 a.in_,.int .i64 a.out,.int .i64 (1 + a.states + b.states),.int .i64 0,.ref 4 1 0 (L0).length,.ref 5 1 0 (g k).length]]⟩,⟨6,1,true,[z1j a]⟩,⟨5,1,false,(L0).map z8n⟩,⟨3,1,false,(g k).map z65⟩]) (fun env H=>[z0k 6 (env 2),z0k 6 (env 4),z0k 6 (env 7),z0k 6 (env 9),z0k 5 (cellAt H (env 7) 4),z0k 3 (cellAt H (env 7) 5)]) 0 (by simp) ?_ ?_)
 · (repeat' (first|(simp (disch:=omega) only [push_cast,↓zz,seval,pa1,pa2,pb1,pb2,hin,hout,Int.zero_mul,Int.one_mul,Int.add_zero,hpl0,g0])|(with_reducible first|refine And.intro ?_ ?_|(first|refine z01 ?_ ?_|refine z00 ?_ ?_)<;>intro hc<;>(try simp only [push_cast] at hc))|omega|with_reducible intro _))
 intro k hk
 have gk:=gl k
 have hbl:(([]:List z4u)).length ≤ 5000:=by simp
 rcases Nat.lt_or_ge k a.finals.length with hkl|hkl
 · obtain ⟨d1,d3,d4⟩:=zhe (a3 _ (z0i hkl))
   have e1:=gs k hkl
   generalize hfe:nth a.finals k=f at *
   have hP:=z05 f.guards
   have hT:=z0w f.out
   have hpf:=z0t (g k)
   refine W_T ?_
   (repeat' (first|(simp (disch:=omega) only [push_cast,↓zz,seval,pa1,pa2,pb1,pb2,hin,hout,Int.zero_mul,Int.one_mul,Int.add_zero,hfe,hP,hT,hpl0,hpf])|(with_reducible first|refine And.intro ?_ ?_|(first|refine z01 ?_ ?_|refine z00 ?_ ?_)<;>intro hc<;>(try simp only [push_cast] at hc))|((with_reducible first|refine eK d3 ?_|refine eQ d3 ?_|refine eG d3 ?_))|((with_reducible first|refine eK d4 ?_|refine eQ d4 ?_|refine eG d4 ?_))|((with_reducible first|refine cK d3 ?_|refine cQ d3 ?_|refine cG d3 ?_);(simp (disch:=omega) only [push_cast,↓zz,seval,pa1,pa2,pb1,pb2,hin,hout,Int.zero_mul,Int.one_mul,Int.add_zero,hfe,hP,hT,hpl0,hpf]);(fail_if_success (with_reducible change False)))|((with_reducible first|refine cK d4 ?_|refine cQ d4 ?_|refine cG d4 ?_);(simp (disch:=omega) only [push_cast,↓zz,seval,pa1,pa2,pb1,pb2,hin,hout,Int.zero_mul,Int.one_mul,Int.add_zero,hfe,hP,hT,hpl0,hpf]);(fail_if_success (with_reducible change False)))|omega|with_reducible intro _))
   all_goals
     refine ⟨k + 1,?_⟩
     (repeat' (first|(simp (disch:=omega) only [push_cast,↓zz,seval,e1,shF,pa1,pa2,pb1,pb2,hin,hout,Int.zero_mul,Int.one_mul,Int.add_zero])|(with_reducible first|refine And.intro ?_ ?_|(first|refine z01 ?_ ?_|refine z00 ?_ ?_)<;>intro hc<;>(try simp only [push_cast] at hc))|omega|with_reducible intro _))
 have hke:k=a.finals.length:=by omega
 subst hke
 have hpf0:=z0t (g a.finals.length)
 have hlf0:(g a.finals.length).length ≤ 5000:=by simp at gk;omega
 clear hk hkl gk gl gs g0 hbl
 generalize g a.finals.length=F0 at *
 refine W_T ?_
 (repeat' (first|(simp (disch:=omega) only [push_cast,↓zz,seval,pa1,pa2,pb1,pb2,hin,hout,Int.zero_mul,Int.one_mul,Int.add_zero,hpl0,hpf0])|(with_reducible first|refine And.intro ?_ ?_|(first|refine z01 ?_ ?_|refine z00 ?_ ?_)<;>intro hc<;>(try simp only [push_cast] at hc))|omega|with_reducible intro _))
 refine z0a ?_
 (repeat' (first|(simp (disch:=omega) only [push_cast,↓zz,seval,pa1,pa2,pb1,pb2,hin,hout,Int.zero_mul,Int.one_mul,Int.add_zero,hpl0,hpf0])|(with_reducible first|refine And.intro ?_ ?_|(first|refine z01 ?_ ?_|refine z00 ?_ ?_)<;>intro hc<;>(try simp only [push_cast] at hc))|omega|with_reducible intro _))
 obtain ⟨g,g0,gs,ge1,gl⟩:=z4n (L0) b.rules (shR (1 + a.states))
 refine z0f (z0g (fun (k:Nat)=>k ≤ b.rules.length) (fun k=>b.rules.length - k) (fun k=>[(2,.ptr 0 1 0 0),(4,.ptr 1 1 0 0),(7,.ptr 2 1 0 0),(9,.ptr 3 1 0 0),(10,.int .i64 (1 + a.states)),(89,.agg [.int .i64 a.in_,.int .i64 a.out,.int .i64 a.states,.int .i64 a.start,z3u a.rules,z4m a.finals,.int .i64 b.in_,.int .i64 b.out,.int .i64 b.states,.int .i64 b.start,z3u b.rules,z4m b.finals]),(90,.int .i64 1),(100,z3u b.rules),(101,.int .i64 b.rules.length),(102,.int .i64 k)]) (fun k=>[⟨6,1,true,[z1j a]⟩,⟨6,1,true,[.agg [.int .i64 0,.int .i64 0,.int .i64 0,.int .i64 0,.nilS,.nilS]]⟩,⟨6,1,true,[.agg [.int .i64 a.in_,.int .i64 a.out,.int .i64 (1 + a.states + b.states),.int .i64 0,.ref 4 1 0 (g k).length,.ref 5 1 0 (F0).length]]⟩,⟨6,1,true,[z1j b]⟩,⟨5,1,false,(g k).map z8n⟩,⟨3,1,false,(F0).map z65⟩]) (fun env H=>[z0k 6 (env 2),z0k 6 (env 4),z0k 6 (env 7),z0k 6 (env 9),z0k 5 (cellAt H (env 7) 4),z0k 3 (cellAt H (env 7) 5)]) 0 (by simp) ?_ ?_)
 · (repeat' (first|(simp (disch:=omega) only [push_cast,↓zz,seval,pa1,pa2,pb1,pb2,hin,hout,Int.zero_mul,Int.one_mul,Int.add_zero,hpl0,hpf0,g0,z5p])|(with_reducible first|refine And.intro ?_ ?_|(first|refine z01 ?_ ?_|refine z00 ?_ ?_)<;>intro hc<;>(try simp only [push_cast] at hc))|omega|with_reducible intro _))
 intro k hk
 have gk:=gl k
 have hbl:(L0).length ≤ 5000:=by omega
 rcases Nat.lt_or_ge k b.rules.length with hkl|hkl
 · obtain ⟨d1,d2,d3,d4⟩:=zmp (b2 _ (z0i hkl))
   have e1:=gs k hkl
   generalize hre:nth b.rules k=r at *
   have hP:=z05 r.guards
   have hT:=z0w r.out
   have hpl:=z0v (g k)
   refine W_T ?_
   (repeat' (first|(simp (disch:=omega) only [push_cast,↓zz,seval,pa1,pa2,pb1,pb2,hin,hout,Int.zero_mul,Int.one_mul,Int.add_zero,hpl0,hpf0,hre,hP,hT,hpl])|(with_reducible first|refine And.intro ?_ ?_|(first|refine z01 ?_ ?_|refine z00 ?_ ?_)<;>intro hc<;>(try simp only [push_cast] at hc))|((with_reducible first|refine eK d3 ?_|refine eQ d3 ?_|refine eG d3 ?_))|((with_reducible first|refine eK d4 ?_|refine eQ d4 ?_|refine eG d4 ?_))|((with_reducible first|refine cK d3 ?_|refine cQ d3 ?_|refine cG d3 ?_);(simp (disch:=omega) only [push_cast,↓zz,seval,pa1,pa2,pb1,pb2,hin,hout,Int.zero_mul,Int.one_mul,Int.add_zero,hpl0,hpf0,hre,hP,hT,hpl]);(fail_if_success (with_reducible change False)))|((with_reducible first|refine cK d4 ?_|refine cQ d4 ?_|refine cG d4 ?_);(simp (disch:=omega) only [push_cast,↓zz,seval,pa1,pa2,pb1,pb2,hin,hout,Int.zero_mul,Int.one_mul,Int.add_zero,hpl0,hpf0,hre,hP,hT,hpl]);(fail_if_success (with_reducible change False)))|omega|with_reducible intro _))
   all_goals
     refine ⟨k + 1,?_⟩
     (repeat' (first|(simp (disch:=omega) only [push_cast,↓zz,seval,e1,shR,pa1,pa2,pb1,pb2,hin,hout,Int.zero_mul,Int.one_mul,Int.add_zero,hpl0,hpf0])|(with_reducible first|refine And.intro ?_ ?_|(first|refine z01 ?_ ?_|refine z00 ?_ ?_)<;>intro hc<;>(try simp only [push_cast] at hc))|omega|with_reducible intro _))
 have hke:k=b.rules.length:=by omega
 subst hke
 have hpl1:=z0v (g b.rules.length)
 have hll1:(g b.rules.length).length ≤ 10000:=by omega
 clear hk hkl gk gl gs g0 hbl
 generalize g b.rules.length=L1 at *
 refine W_T ?_
 (repeat' (first|(simp (disch:=omega) only [push_cast,↓zz,seval,pa1,pa2,pb1,pb2,hin,hout,Int.zero_mul,Int.one_mul,Int.add_zero,hpl0,hpf0,hpl1])|(with_reducible first|refine And.intro ?_ ?_|(first|refine z01 ?_ ?_|refine z00 ?_ ?_)<;>intro hc<;>(try simp only [push_cast] at hc))|omega|with_reducible intro _))
 obtain ⟨g,g0,gs,gf1,gl⟩:=z4n (F0) b.finals (shF (1 + a.states))
 refine z0f (z0g (fun (k:Nat)=>k ≤ b.finals.length) (fun k=>b.finals.length - k) (fun k=>[(2,.ptr 0 1 0 0),(4,.ptr 1 1 0 0),(7,.ptr 2 1 0 0),(9,.ptr 3 1 0 0),(10,.int .i64 (1 + a.states)),(89,.agg [.int .i64 a.in_,.int .i64 a.out,.int .i64 a.states,.int .i64 a.start,z3u a.rules,z4m a.finals,.int .i64 b.in_,.int .i64 b.out,.int .i64 b.states,.int .i64 b.start,z3u b.rules,z4m b.finals]),(90,.int .i64 1),(130,z4m b.finals),(131,.int .i64 b.finals.length),(132,.int .i64 k)]) (fun k=>[⟨6,1,true,[z1j a]⟩,⟨6,1,true,[.agg [.int .i64 0,.int .i64 0,.int .i64 0,.int .i64 0,.nilS,.nilS]]⟩,⟨6,1,true,[.agg [.int .i64 a.in_,.int .i64 a.out,.int .i64 (1 + a.states + b.states),.int .i64 0,.ref 4 1 0 (L1).length,.ref 5 1 0 (g k).length]]⟩,⟨6,1,true,[z1j b]⟩,⟨5,1,false,(L1).map z8n⟩,⟨3,1,false,(g k).map z65⟩]) (fun env H=>[z0k 6 (env 2),z0k 6 (env 4),z0k 6 (env 7),z0k 6 (env 9),z0k 5 (cellAt H (env 7) 4),z0k 3 (cellAt H (env 7) 5)]) 0 (by simp) ?_ ?_)
 · (repeat' (first|(simp (disch:=omega) only [push_cast,↓zz,seval,pa1,pa2,pb1,pb2,hin,hout,Int.zero_mul,Int.one_mul,Int.add_zero,hpl0,hpf0,hpl1,g0])|(with_reducible first|refine And.intro ?_ ?_|(first|refine z01 ?_ ?_|refine z00 ?_ ?_)<;>intro hc<;>(try simp only [push_cast] at hc))|omega|with_reducible intro _))
 intro k hk
 have gk:=gl k
 have hbl:(F0).length ≤ 5000:=by omega
 rcases Nat.lt_or_ge k b.finals.length with hkl|hkl
 · obtain ⟨d1,d3,d4⟩:=zhe (b3 _ (z0i hkl))
   have e1:=gs k hkl
   generalize hfe:nth b.finals k=f at *
   have hP:=z05 f.guards
   have hT:=z0w f.out
   have hpf:=z0t (g k)
   refine W_T ?_
   (repeat' (first|(simp (disch:=omega) only [push_cast,↓zz,seval,pa1,pa2,pb1,pb2,hin,hout,Int.zero_mul,Int.one_mul,Int.add_zero,hpl0,hpf0,hfe,hP,hT,hpl1,hpf])|(with_reducible first|refine And.intro ?_ ?_|(first|refine z01 ?_ ?_|refine z00 ?_ ?_)<;>intro hc<;>(try simp only [push_cast] at hc))|((with_reducible first|refine eK d3 ?_|refine eQ d3 ?_|refine eG d3 ?_))|((with_reducible first|refine eK d4 ?_|refine eQ d4 ?_|refine eG d4 ?_))|((with_reducible first|refine cK d3 ?_|refine cQ d3 ?_|refine cG d3 ?_);(simp (disch:=omega) only [push_cast,↓zz,seval,pa1,pa2,pb1,pb2,hin,hout,Int.zero_mul,Int.one_mul,Int.add_zero,hpl0,hpf0,hfe,hP,hT,hpl1,hpf]);(fail_if_success (with_reducible change False)))|((with_reducible first|refine cK d4 ?_|refine cQ d4 ?_|refine cG d4 ?_);(simp (disch:=omega) only [push_cast,↓zz,seval,pa1,pa2,pb1,pb2,hin,hout,Int.zero_mul,Int.one_mul,Int.add_zero,hpl0,hpf0,hfe,hP,hT,hpl1,hpf]);(fail_if_success (with_reducible change False)))|omega|with_reducible intro _))
   all_goals
     refine ⟨k + 1,?_⟩
     (repeat' (first|(simp (disch:=omega) only [push_cast,↓zz,seval,e1,shF,pa1,pa2,pb1,pb2,hin,hout,Int.zero_mul,Int.one_mul,Int.add_zero,hpl0,hpf0])|(with_reducible first|refine And.intro ?_ ?_|(first|refine z01 ?_ ?_|refine z00 ?_ ?_)<;>intro hc<;>(try simp only [push_cast] at hc))|omega|with_reducible intro _))
 have hke:k=b.finals.length:=by omega
 subst hke
 have hpf1:=z0t (g b.finals.length)
 have hlf1:(g b.finals.length).length ≤ 10000:=by omega
 clear hk hkl gk gl gs g0 hbl
 generalize g b.finals.length=F1 at *
 refine W_T ?_
 (repeat' (first|(simp (disch:=omega) only [push_cast,↓zz,seval,pa1,pa2,pb1,pb2,hin,hout,Int.zero_mul,Int.one_mul,Int.add_zero,hpl0,hpf0,hpl1,hpf1])|(with_reducible first|refine And.intro ?_ ?_|(first|refine z01 ?_ ?_|refine z00 ?_ ?_)<;>intro hc<;>(try simp only [push_cast] at hc))|omega|with_reducible intro _))
 refine z0a ?_
 (repeat' (first|(simp (disch:=omega) only [push_cast,↓zz,seval,pa1,pa2,pb1,pb2,hin,hout,Int.zero_mul,Int.one_mul,Int.add_zero,hpl0,hpf0,hpl1,hpf1])|(with_reducible first|refine And.intro ?_ ?_|(first|refine z01 ?_ ?_|refine z00 ?_ ?_)<;>intro hc<;>(try simp only [push_cast] at hc))|omega|with_reducible intro _))
 have e:z1j (z9e a b)=.agg [.int .i64 a.in_,.int .i64 a.out,.int .i64 (1 + a.states + b.states),.int .i64 0,z3u L1,z4m F1]:=by
   rw [ge1,gf1,ge0,gf0];rfl
 rw [e,hin,hout]
 (repeat' (first|(simp (disch:=omega) only [push_cast,↓zz,seval,z1i])|omega|(with_reducible refine And.intro ?_ ?_)))
 all_goals trace_state
end Go.Proofs.YticodgjinajkpaaGreat
