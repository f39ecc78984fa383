/-
  The inner values of all windows of guards, of terms of four parts.
  All inner values, the values, and whether a term fits: term.inner, term.Image, term.Fits.
  Contracts of layer 6: spans, guards, terms of rules; heads.
  desc.cycle: epsilon rules, as the code goes through them.
  What edges lead to: plain.
  trim.spread, as the code goes through it.
  What is wrong first with a description: desc.Where, desc.Check.
  Sizes of descriptions: Free, Width, Ahead, Longest.
  Descriptions that are made: Empty, Same, copies, Join.
  What a part's values, sums of sets, and a term's inner values are, number by number.
  The inner values of all windows, and a term's values.
  A term's values of all windows of guards, as they are told.
  The document's answer for layer 4: how many windows there are, a window by its number, all values.
  The document's answer for layer 4: all values of all windows, and whether a term fits.
  The document's values of all windows are the program's.
  Two descriptions joined.
-/
import Derived.Test.YticodgjinajkpaaDT6
import Derived.Test.YticodgjinajkpaaDT4
import Derived.Test.YticodgjinajkpaaDT5
set_option linter.unusedSimpArgs false
set_option linter.unusedVariables false
namespace Go.Proofs.Yticodgjinajkpaa
open Abs
theorem zrl (bs dr tk up sm : Int) (p0 p1 p2 p3 : Part) (sets : List (List Span)) (hs : z1u sm = true) (hS : z2u [p0, p1, p2, p3] sets) (e1 : p1.at_ = p0.at_) (e2 : p2.at_ = p0.at_) (e3 : p3.at_ = p0.at_) :
   PC Try.prog 101 [z1s ⟨bs, dr, tk, up, sm, [p0, p1, p2, p3]⟩, z0d sets] (.tup [z06 (z0l ⟨bs, dr, tk, up, sm, [p0, p1, p2, p3]⟩ sets), .bool (z1y (z0l ⟨bs, dr, tk, up, sm, [p0, p1, p2, p3]⟩ sets))]) := by
 have hg := z07 sets
 have b0 := z0a (hS.parts p0 (by simp))
 have b1 := z0a (hS.parts p1 (by simp))
 have b2 := z0a (hS.parts p2 (by simp))
 have b3 := z0a (hS.parts p3 (by simp))
 have A0 := z2p hs
 obtain ⟨T1, P1, A1⟩ := z09 (a := p0.at_) hS A0 (by omega) (by simp)
 have l1 : atL [p0, p1, p2, p3] p0.at_ = [p0, p1, p2, p3] := by simp [atL, e1, e2, e3]
 rw [l1] at T1 P1
 have hv : z0l ⟨bs, dr, tk, up, sm, [p0, p1, p2, p3]⟩ sets = z0o [p0, p1, p2, p3] sets ([⟨sm, sm⟩]) p0.at_ := by simp [z0l, z2o, z2n, e1, e2, e3]
 rw [hv]
 generalize ho1 : z0o [p0, p1, p2, p3] sets ([⟨sm, sm⟩]) p0.at_ = o1 at *
 generalize ht1 : togL [p0, p1, p2, p3] (nth sets p0.at_.toNat) = t1 at *
 have hF := z0x o1 (by have := A1.2; omega)
 have hL := z1g o1 (by have := A1.2; omega)
 clear hS hv ho1 ht1 l1
 refine z0v z0j ?_
 unfold z0g
 (repeat' (first | (simp (disch := omega) only [push_cast, ↓zz, seval]) | (with_reducible first | refine And.intro ?_ ?_ | (first | refine z01 ?_ ?_ | refine z00 ?_ ?_) <;> intro hc <;> (try simp only [push_cast] at hc)) | omega | with_reducible intro _))
 refine z0m 6 ?_
 (repeat' (first | (simp (disch := omega) only [push_cast, ↓zz, seval, xx, List.mem_cons, List.not_mem_nil, or_false, false_or, not_or, not_false_eq_true, true_or, or_true, z1v, setM, e1, e2, e3]) | (with_reducible first | refine And.intro ?_ ?_ | (first | refine z01 ?_ ?_ | refine z00 ?_ ?_) <;> intro hc <;> (try simp only [push_cast] at hc)) | ((with_reducible refine z0b ?_)) | ((with_reducible refine z2f [1, 5] ?_)) | omega | with_reducible intro _))
 refine z0w 6 (fun env => [z0r 1 (env 6)]) [(1, z0d sets), (6, .map 0 1), (10, z06 [⟨sm, sm⟩]), (53, .lst 1 [.int .i64 p0.at_]), (54, .int .i64 1), (55, .int .i64 0)] [⟨0, 1, true, [.int .i64 p0.at_, z0s [p0, p1, p2, p3]]⟩] ?_ ?_
 · (repeat' (first | (simp (disch := omega) only [push_cast, ↓zz, seval, e1, e2, e3]) | (with_reducible first | refine And.intro ?_ ?_ | (first | refine z01 ?_ ?_ | refine z00 ?_ ?_) <;> intro hc <;> (try simp only [push_cast] at hc)) | omega | with_reducible intro _))
   all_goals (simp only [z2d, e1, e2, e3]; done)
 (repeat' (first | (simp (disch := omega) only [push_cast, ↓zz, seval, z1v, z1y, hg, e1, e2, e3]) | (with_reducible first | refine And.intro ?_ ?_ | (first | refine z01 ?_ ?_ | refine z00 ?_ ?_) <;> intro hc <;> (try simp only [push_cast] at hc)) | ((with_reducible refine z0b ?_)) | ((with_reducible first | refine eQ T1 ?_ | refine eQ P1 ?_)) | ((with_reducible first | refine eK hF ?_ | refine eK hL ?_)) | omega | with_reducible intro _))
 all_goals ((try simp only [*, decide_true, decide_false, Bool.true_and, Bool.false_and]); (repeat' (first | (simp (disch := omega) only [push_cast, ↓zz, seval, z1q]) | omega | (with_reducible refine And.intro ?_ ?_))))
theorem zrm (bs dr tk up sm : Int) (p0 p1 p2 p3 : Part) (sets : List (List Span)) (hs : z1u sm = true) (hS : z2u [p0, p1, p2, p3] sets) (e1 : p1.at_ = p0.at_) (e2 : p2.at_ = p0.at_) (n03 : ¬ p0.at_ = p3.at_) :
   PC Try.prog 101 [z1s ⟨bs, dr, tk, up, sm, [p0, p1, p2, p3]⟩, z0d sets] (.tup [z06 (z0l ⟨bs, dr, tk, up, sm, [p0, p1, p2, p3]⟩ sets), .bool (z1y (z0l ⟨bs, dr, tk, up, sm, [p0, p1, p2, p3]⟩ sets))]) := by
 have hg := z07 sets
 have b0 := z0a (hS.parts p0 (by simp))
 have b1 := z0a (hS.parts p1 (by simp))
 have b2 := z0a (hS.parts p2 (by simp))
 have b3 := z0a (hS.parts p3 (by simp))
 have A0 := z2p hs
 obtain ⟨T1, P1, A1⟩ := z09 (a := p0.at_) hS A0 (by omega) (by simp)
 have l1 : atL [p0, p1, p2, p3] p0.at_ = [p0, p1, p2] := by simp [atL, e1, e2, n03, Ne.symm (show p0.at_ ≠ p3.at_ from n03)]
 rw [l1] at T1 P1
 obtain ⟨T2, P2, A2⟩ := z09 (a := p3.at_) hS A1 (by omega) (by simp)
 have l2 : atL [p0, p1, p2, p3] p3.at_ = [p3] := by simp [atL, e1, e2, n03, Ne.symm (show p0.at_ ≠ p3.at_ from n03)]
 rw [l2] at T2 P2
 have hv : z0l ⟨bs, dr, tk, up, sm, [p0, p1, p2, p3]⟩ sets = z0o [p0, p1, p2, p3] sets (z0o [p0, p1, p2, p3] sets ([⟨sm, sm⟩]) p0.at_) p3.at_ := by simp [z0l, z2o, z2n, e1, e2, n03, Ne.symm (show p0.at_ ≠ p3.at_ from n03)]
 rw [hv]
 generalize ho1 : z0o [p0, p1, p2, p3] sets ([⟨sm, sm⟩]) p0.at_ = o1 at *
 generalize ht1 : togL [p0, p1, p2] (nth sets p0.at_.toNat) = t1 at *
 generalize ho2 : z0o [p0, p1, p2, p3] sets (o1) p3.at_ = o2 at *
 generalize ht2 : togL [p3] (nth sets p3.at_.toNat) = t2 at *
 have hF := z0x o2 (by have := A2.2; omega)
 have hL := z1g o2 (by have := A2.2; omega)
 clear hS hv ho1 ht1 l1 ho2 ht2 l2
 refine z0v z0j ?_
 unfold z0g
 (repeat' (first | (simp (disch := omega) only [push_cast, ↓zz, seval]) | (with_reducible first | refine And.intro ?_ ?_ | (first | refine z01 ?_ ?_ | refine z00 ?_ ?_) <;> intro hc <;> (try simp only [push_cast] at hc)) | omega | with_reducible intro _))
 refine z0m 6 ?_
 (repeat' (first | (simp (disch := omega) only [push_cast, ↓zz, seval, xx, List.mem_cons, List.not_mem_nil, or_false, false_or, not_or, not_false_eq_true, true_or, or_true, z1v, setM, e1, e2, n03]) | (with_reducible first | refine And.intro ?_ ?_ | (first | refine z01 ?_ ?_ | refine z00 ?_ ?_) <;> intro hc <;> (try simp only [push_cast] at hc)) | ((with_reducible refine z0b ?_)) | ((with_reducible refine z2f [1, 5] ?_)) | omega | with_reducible intro _))
 refine z0w 6 (fun env => [z0r 1 (env 6)]) [(1, z0d sets), (6, .map 0 1), (10, z06 [⟨sm, sm⟩]), (53, .lst 1 [.int .i64 p0.at_, .int .i64 p3.at_]), (54, .int .i64 2), (55, .int .i64 0)] [⟨0, 1, true, [.int .i64 p0.at_, z0s [p0, p1, p2], .int .i64 p3.at_, z0s [p3]]⟩] ?_ ?_
 · (repeat' (first | (simp (disch := omega) only [push_cast, ↓zz, seval, e1, e2, n03]) | (with_reducible first | refine And.intro ?_ ?_ | (first | refine z01 ?_ ?_ | refine z00 ?_ ?_) <;> intro hc <;> (try simp only [push_cast] at hc)) | omega | with_reducible intro _))
   all_goals (simp only [z2d, e1, e2, n03]; done)
 (repeat' (first | (simp (disch := omega) only [push_cast, ↓zz, seval, z1v, z1y, hg, e1, e2, n03]) | (with_reducible first | refine And.intro ?_ ?_ | (first | refine z01 ?_ ?_ | refine z00 ?_ ?_) <;> intro hc <;> (try simp only [push_cast] at hc)) | ((with_reducible refine z0b ?_)) | ((with_reducible first | refine eQ T1 ?_ | refine eQ P1 ?_)) | ((with_reducible first | refine eQ T2 ?_ | refine eQ P2 ?_)) | ((with_reducible first | refine eK hF ?_ | refine eK hL ?_)) | omega | with_reducible intro _))
 all_goals ((try simp only [*, decide_true, decide_false, Bool.true_and, Bool.false_and]); (repeat' (first | (simp (disch := omega) only [push_cast, ↓zz, seval, z1q]) | omega | (with_reducible refine And.intro ?_ ?_))))
theorem zrn (bs dr tk up sm : Int) (p0 p1 p2 p3 : Part) (sets : List (List Span)) (hs : z1u sm = true) (hS : z2u [p0, p1, p2, p3] sets) (e1 : p1.at_ = p0.at_) (e3 : p3.at_ = p0.at_) (n02 : ¬ p0.at_ = p2.at_) :
   PC Try.prog 101 [z1s ⟨bs, dr, tk, up, sm, [p0, p1, p2, p3]⟩, z0d sets] (.tup [z06 (z0l ⟨bs, dr, tk, up, sm, [p0, p1, p2, p3]⟩ sets), .bool (z1y (z0l ⟨bs, dr, tk, up, sm, [p0, p1, p2, p3]⟩ sets))]) := by
 have hg := z07 sets
 have b0 := z0a (hS.parts p0 (by simp))
 have b1 := z0a (hS.parts p1 (by simp))
 have b2 := z0a (hS.parts p2 (by simp))
 have b3 := z0a (hS.parts p3 (by simp))
 have A0 := z2p hs
 obtain ⟨T1, P1, A1⟩ := z09 (a := p0.at_) hS A0 (by omega) (by simp)
 have l1 : atL [p0, p1, p2, p3] p0.at_ = [p0, p1, p3] := by simp [atL, e1, e3, n02, Ne.symm (show p0.at_ ≠ p2.at_ from n02)]
 rw [l1] at T1 P1
 obtain ⟨T2, P2, A2⟩ := z09 (a := p2.at_) hS A1 (by omega) (by simp)
 have l2 : atL [p0, p1, p2, p3] p2.at_ = [p2] := by simp [atL, e1, e3, n02, Ne.symm (show p0.at_ ≠ p2.at_ from n02)]
 rw [l2] at T2 P2
 have hv : z0l ⟨bs, dr, tk, up, sm, [p0, p1, p2, p3]⟩ sets = z0o [p0, p1, p2, p3] sets (z0o [p0, p1, p2, p3] sets ([⟨sm, sm⟩]) p0.at_) p2.at_ := by simp [z0l, z2o, z2n, e1, e3, n02, Ne.symm (show p0.at_ ≠ p2.at_ from n02)]
 rw [hv]
 generalize ho1 : z0o [p0, p1, p2, p3] sets ([⟨sm, sm⟩]) p0.at_ = o1 at *
 generalize ht1 : togL [p0, p1, p3] (nth sets p0.at_.toNat) = t1 at *
 generalize ho2 : z0o [p0, p1, p2, p3] sets (o1) p2.at_ = o2 at *
 generalize ht2 : togL [p2] (nth sets p2.at_.toNat) = t2 at *
 have hF := z0x o2 (by have := A2.2; omega)
 have hL := z1g o2 (by have := A2.2; omega)
 clear hS hv ho1 ht1 l1 ho2 ht2 l2
 refine z0v z0j ?_
 unfold z0g
 (repeat' (first | (simp (disch := omega) only [push_cast, ↓zz, seval]) | (with_reducible first | refine And.intro ?_ ?_ | (first | refine z01 ?_ ?_ | refine z00 ?_ ?_) <;> intro hc <;> (try simp only [push_cast] at hc)) | omega | with_reducible intro _))
 refine z0m 6 ?_
 (repeat' (first | (simp (disch := omega) only [push_cast, ↓zz, seval, xx, List.mem_cons, List.not_mem_nil, or_false, false_or, not_or, not_false_eq_true, true_or, or_true, z1v, setM, e1, e3, n02]) | (with_reducible first | refine And.intro ?_ ?_ | (first | refine z01 ?_ ?_ | refine z00 ?_ ?_) <;> intro hc <;> (try simp only [push_cast] at hc)) | ((with_reducible refine z0b ?_)) | ((with_reducible refine z2f [1, 5] ?_)) | omega | with_reducible intro _))
 refine z0w 6 (fun env => [z0r 1 (env 6)]) [(1, z0d sets), (6, .map 0 1), (10, z06 [⟨sm, sm⟩]), (53, .lst 1 [.int .i64 p0.at_, .int .i64 p2.at_]), (54, .int .i64 2), (55, .int .i64 0)] [⟨0, 1, true, [.int .i64 p0.at_, z0s [p0, p1, p3], .int .i64 p2.at_, z0s [p2]]⟩] ?_ ?_
 · (repeat' (first | (simp (disch := omega) only [push_cast, ↓zz, seval, e1, e3, n02]) | (with_reducible first | refine And.intro ?_ ?_ | (first | refine z01 ?_ ?_ | refine z00 ?_ ?_) <;> intro hc <;> (try simp only [push_cast] at hc)) | omega | with_reducible intro _))
   all_goals (simp only [z2d, e1, e3, n02]; done)
 (repeat' (first | (simp (disch := omega) only [push_cast, ↓zz, seval, z1v, z1y, hg, e1, e3, n02]) | (with_reducible first | refine And.intro ?_ ?_ | (first | refine z01 ?_ ?_ | refine z00 ?_ ?_) <;> intro hc <;> (try simp only [push_cast] at hc)) | ((with_reducible refine z0b ?_)) | ((with_reducible first | refine eQ T1 ?_ | refine eQ P1 ?_)) | ((with_reducible first | refine eQ T2 ?_ | refine eQ P2 ?_)) | ((with_reducible first | refine eK hF ?_ | refine eK hL ?_)) | omega | with_reducible intro _))
 all_goals ((try simp only [*, decide_true, decide_false, Bool.true_and, Bool.false_and]); (repeat' (first | (simp (disch := omega) only [push_cast, ↓zz, seval, z1q]) | omega | (with_reducible refine And.intro ?_ ?_))))
theorem zro (bs dr tk up sm : Int) (p0 p1 p2 p3 : Part) (sets : List (List Span)) (hs : z1u sm = true) (hS : z2u [p0, p1, p2, p3] sets) (e1 : p1.at_ = p0.at_) (e3 : p3.at_ = p2.at_) (n02 : ¬ p0.at_ = p2.at_) :
   PC Try.prog 101 [z1s ⟨bs, dr, tk, up, sm, [p0, p1, p2, p3]⟩, z0d sets] (.tup [z06 (z0l ⟨bs, dr, tk, up, sm, [p0, p1, p2, p3]⟩ sets), .bool (z1y (z0l ⟨bs, dr, tk, up, sm, [p0, p1, p2, p3]⟩ sets))]) := by
 have hg := z07 sets
 have b0 := z0a (hS.parts p0 (by simp))
 have b1 := z0a (hS.parts p1 (by simp))
 have b2 := z0a (hS.parts p2 (by simp))
 have b3 := z0a (hS.parts p3 (by simp))
 have A0 := z2p hs
 obtain ⟨T1, P1, A1⟩ := z09 (a := p0.at_) hS A0 (by omega) (by simp)
 have l1 : atL [p0, p1, p2, p3] p0.at_ = [p0, p1] := by simp [atL, e1, e3, n02, Ne.symm (show p0.at_ ≠ p2.at_ from n02)]
 rw [l1] at T1 P1
 obtain ⟨T2, P2, A2⟩ := z09 (a := p2.at_) hS A1 (by omega) (by simp)
 have l2 : atL [p0, p1, p2, p3] p2.at_ = [p2, p3] := by simp [atL, e1, e3, n02, Ne.symm (show p0.at_ ≠ p2.at_ from n02)]
 rw [l2] at T2 P2
 have hv : z0l ⟨bs, dr, tk, up, sm, [p0, p1, p2, p3]⟩ sets = z0o [p0, p1, p2, p3] sets (z0o [p0, p1, p2, p3] sets ([⟨sm, sm⟩]) p0.at_) p2.at_ := by simp [z0l, z2o, z2n, e1, e3, n02, Ne.symm (show p0.at_ ≠ p2.at_ from n02)]
 rw [hv]
 generalize ho1 : z0o [p0, p1, p2, p3] sets ([⟨sm, sm⟩]) p0.at_ = o1 at *
 generalize ht1 : togL [p0, p1] (nth sets p0.at_.toNat) = t1 at *
 generalize ho2 : z0o [p0, p1, p2, p3] sets (o1) p2.at_ = o2 at *
 generalize ht2 : togL [p2, p3] (nth sets p2.at_.toNat) = t2 at *
 have hF := z0x o2 (by have := A2.2; omega)
 have hL := z1g o2 (by have := A2.2; omega)
 clear hS hv ho1 ht1 l1 ho2 ht2 l2
 refine z0v z0j ?_
 unfold z0g
 (repeat' (first | (simp (disch := omega) only [push_cast, ↓zz, seval]) | (with_reducible first | refine And.intro ?_ ?_ | (first | refine z01 ?_ ?_ | refine z00 ?_ ?_) <;> intro hc <;> (try simp only [push_cast] at hc)) | omega | with_reducible intro _))
 refine z0m 6 ?_
 (repeat' (first | (simp (disch := omega) only [push_cast, ↓zz, seval, xx, List.mem_cons, List.not_mem_nil, or_false, false_or, not_or, not_false_eq_true, true_or, or_true, z1v, setM, e1, e3, n02]) | (with_reducible first | refine And.intro ?_ ?_ | (first | refine z01 ?_ ?_ | refine z00 ?_ ?_) <;> intro hc <;> (try simp only [push_cast] at hc)) | ((with_reducible refine z0b ?_)) | ((with_reducible refine z2f [1, 5, 9] ?_)) | omega | with_reducible intro _))
 refine z0w 6 (fun env => [z0r 1 (env 6)]) [(1, z0d sets), (6, .map 0 1), (10, z06 [⟨sm, sm⟩]), (53, .lst 1 [.int .i64 p0.at_, .int .i64 p2.at_]), (54, .int .i64 2), (55, .int .i64 0)] [⟨0, 1, true, [.int .i64 p0.at_, z0s [p0, p1], .int .i64 p2.at_, z0s [p2, p3]]⟩] ?_ ?_
 · (repeat' (first | (simp (disch := omega) only [push_cast, ↓zz, seval, e1, e3, n02]) | (with_reducible first | refine And.intro ?_ ?_ | (first | refine z01 ?_ ?_ | refine z00 ?_ ?_) <;> intro hc <;> (try simp only [push_cast] at hc)) | omega | with_reducible intro _))
   all_goals (simp only [z2d, e1, e3, n02]; done)
 (repeat' (first | (simp (disch := omega) only [push_cast, ↓zz, seval, z1v, z1y, hg, e1, e3, n02]) | (with_reducible first | refine And.intro ?_ ?_ | (first | refine z01 ?_ ?_ | refine z00 ?_ ?_) <;> intro hc <;> (try simp only [push_cast] at hc)) | ((with_reducible refine z0b ?_)) | ((with_reducible first | refine eQ T1 ?_ | refine eQ P1 ?_)) | ((with_reducible first | refine eQ T2 ?_ | refine eQ P2 ?_)) | ((with_reducible first | refine eK hF ?_ | refine eK hL ?_)) | omega | with_reducible intro _))
 all_goals ((try simp only [*, decide_true, decide_false, Bool.true_and, Bool.false_and]); (repeat' (first | (simp (disch := omega) only [push_cast, ↓zz, seval, z1q]) | omega | (with_reducible refine And.intro ?_ ?_))))
theorem zrp (bs dr tk up sm : Int) (p0 p1 p2 p3 : Part) (sets : List (List Span)) (hs : z1u sm = true) (hS : z2u [p0, p1, p2, p3] sets) (e1 : p1.at_ = p0.at_) (n02 : ¬ p0.at_ = p2.at_) (n03 : ¬ p0.at_ = p3.at_) (n23 : ¬ p2.at_ = p3.at_) :
   PC Try.prog 101 [z1s ⟨bs, dr, tk, up, sm, [p0, p1, p2, p3]⟩, z0d sets] (.tup [z06 (z0l ⟨bs, dr, tk, up, sm, [p0, p1, p2, p3]⟩ sets), .bool (z1y (z0l ⟨bs, dr, tk, up, sm, [p0, p1, p2, p3]⟩ sets))]) := by
 have hg := z07 sets
 have b0 := z0a (hS.parts p0 (by simp))
 have b1 := z0a (hS.parts p1 (by simp))
 have b2 := z0a (hS.parts p2 (by simp))
 have b3 := z0a (hS.parts p3 (by simp))
 have A0 := z2p hs
 obtain ⟨T1, P1, A1⟩ := z09 (a := p0.at_) hS A0 (by omega) (by simp)
 have l1 : atL [p0, p1, p2, p3] p0.at_ = [p0, p1] := by simp [atL, e1, n02, n03, n23, Ne.symm (show p0.at_ ≠ p2.at_ from n02), Ne.symm (show p0.at_ ≠ p3.at_ from n03), Ne.symm (show p2.at_ ≠ p3.at_ from n23)]
 rw [l1] at T1 P1
 obtain ⟨T2, P2, A2⟩ := z09 (a := p2.at_) hS A1 (by omega) (by simp)
 have l2 : atL [p0, p1, p2, p3] p2.at_ = [p2] := by simp [atL, e1, n02, n03, n23, Ne.symm (show p0.at_ ≠ p2.at_ from n02), Ne.symm (show p0.at_ ≠ p3.at_ from n03), Ne.symm (show p2.at_ ≠ p3.at_ from n23)]
 rw [l2] at T2 P2
 obtain ⟨T3, P3, A3⟩ := z09 (a := p3.at_) hS A2 (by omega) (by simp)
 have l3 : atL [p0, p1, p2, p3] p3.at_ = [p3] := by simp [atL, e1, n02, n03, n23, Ne.symm (show p0.at_ ≠ p2.at_ from n02), Ne.symm (show p0.at_ ≠ p3.at_ from n03), Ne.symm (show p2.at_ ≠ p3.at_ from n23)]
 rw [l3] at T3 P3
 have hv : z0l ⟨bs, dr, tk, up, sm, [p0, p1, p2, p3]⟩ sets = z0o [p0, p1, p2, p3] sets (z0o [p0, p1, p2, p3] sets (z0o [p0, p1, p2, p3] sets ([⟨sm, sm⟩]) p0.at_) p2.at_) p3.at_ := by simp [z0l, z2o, z2n, e1, n02, n03, n23, Ne.symm (show p0.at_ ≠ p2.at_ from n02), Ne.symm (show p0.at_ ≠ p3.at_ from n03), Ne.symm (show p2.at_ ≠ p3.at_ from n23)]
 rw [hv]
 generalize ho1 : z0o [p0, p1, p2, p3] sets ([⟨sm, sm⟩]) p0.at_ = o1 at *
 generalize ht1 : togL [p0, p1] (nth sets p0.at_.toNat) = t1 at *
 generalize ho2 : z0o [p0, p1, p2, p3] sets (o1) p2.at_ = o2 at *
 generalize ht2 : togL [p2] (nth sets p2.at_.toNat) = t2 at *
 generalize ho3 : z0o [p0, p1, p2, p3] sets (o2) p3.at_ = o3 at *
 generalize ht3 : togL [p3] (nth sets p3.at_.toNat) = t3 at *
 have hF := z0x o3 (by have := A3.2; omega)
 have hL := z1g o3 (by have := A3.2; omega)
 clear hS hv ho1 ht1 l1 ho2 ht2 l2 ho3 ht3 l3
 refine z0v z0j ?_
 unfold z0g
 (repeat' (first | (simp (disch := omega) only [push_cast, ↓zz, seval]) | (with_reducible first | refine And.intro ?_ ?_ | (first | refine z01 ?_ ?_ | refine z00 ?_ ?_) <;> intro hc <;> (try simp only [push_cast] at hc)) | omega | with_reducible intro _))
 refine z0m 6 ?_
 (repeat' (first | (simp (disch := omega) only [push_cast, ↓zz, seval, xx, List.mem_cons, List.not_mem_nil, or_false, false_or, not_or, not_false_eq_true, true_or, or_true, z1v, setM, e1, n02, n03, n23]) | (with_reducible first | refine And.intro ?_ ?_ | (first | refine z01 ?_ ?_ | refine z00 ?_ ?_) <;> intro hc <;> (try simp only [push_cast] at hc)) | ((with_reducible refine z0b ?_)) | ((with_reducible refine z2f [1, 5] ?_)) | omega | with_reducible intro _))
 refine z0w 6 (fun env => [z0r 1 (env 6)]) [(1, z0d sets), (6, .map 0 1), (10, z06 [⟨sm, sm⟩]), (53, .lst 1 [.int .i64 p0.at_, .int .i64 p2.at_, .int .i64 p3.at_]), (54, .int .i64 3), (55, .int .i64 0)] [⟨0, 1, true, [.int .i64 p0.at_, z0s [p0, p1], .int .i64 p2.at_, z0s [p2], .int .i64 p3.at_, z0s [p3]]⟩] ?_ ?_
 · (repeat' (first | (simp (disch := omega) only [push_cast, ↓zz, seval, e1, n02, n03, n23]) | (with_reducible first | refine And.intro ?_ ?_ | (first | refine z01 ?_ ?_ | refine z00 ?_ ?_) <;> intro hc <;> (try simp only [push_cast] at hc)) | omega | with_reducible intro _))
   all_goals (simp only [z2d, e1, n02, n03, n23]; done)
 (repeat' (first | (simp (disch := omega) only [push_cast, ↓zz, seval, z1v, z1y, hg, e1, n02, n03, n23]) | (with_reducible first | refine And.intro ?_ ?_ | (first | refine z01 ?_ ?_ | refine z00 ?_ ?_) <;> intro hc <;> (try simp only [push_cast] at hc)) | ((with_reducible refine z0b ?_)) | ((with_reducible first | refine eQ T1 ?_ | refine eQ P1 ?_)) | ((with_reducible first | refine eQ T2 ?_ | refine eQ P2 ?_)) | ((with_reducible first | refine eQ T3 ?_ | refine eQ P3 ?_)) | ((with_reducible first | refine eK hF ?_ | refine eK hL ?_)) | omega | with_reducible intro _))
 all_goals ((try simp only [*, decide_true, decide_false, Bool.true_and, Bool.false_and]); (repeat' (first | (simp (disch := omega) only [push_cast, ↓zz, seval, z1q]) | omega | (with_reducible refine And.intro ?_ ?_))))
theorem zrq (bs dr tk up sm : Int) (p0 p1 p2 p3 : Part) (sets : List (List Span)) (hs : z1u sm = true) (hS : z2u [p0, p1, p2, p3] sets) (e2 : p2.at_ = p0.at_) (e3 : p3.at_ = p0.at_) (n01 : ¬ p0.at_ = p1.at_) :
   PC Try.prog 101 [z1s ⟨bs, dr, tk, up, sm, [p0, p1, p2, p3]⟩, z0d sets] (.tup [z06 (z0l ⟨bs, dr, tk, up, sm, [p0, p1, p2, p3]⟩ sets), .bool (z1y (z0l ⟨bs, dr, tk, up, sm, [p0, p1, p2, p3]⟩ sets))]) := by
 have hg := z07 sets
 have b0 := z0a (hS.parts p0 (by simp))
 have b1 := z0a (hS.parts p1 (by simp))
 have b2 := z0a (hS.parts p2 (by simp))
 have b3 := z0a (hS.parts p3 (by simp))
 have A0 := z2p hs
 obtain ⟨T1, P1, A1⟩ := z09 (a := p0.at_) hS A0 (by omega) (by simp)
 have l1 : atL [p0, p1, p2, p3] p0.at_ = [p0, p2, p3] := by simp [atL, e2, e3, n01, Ne.symm (show p0.at_ ≠ p1.at_ from n01)]
 rw [l1] at T1 P1
 obtain ⟨T2, P2, A2⟩ := z09 (a := p1.at_) hS A1 (by omega) (by simp)
 have l2 : atL [p0, p1, p2, p3] p1.at_ = [p1] := by simp [atL, e2, e3, n01, Ne.symm (show p0.at_ ≠ p1.at_ from n01)]
 rw [l2] at T2 P2
 have hv : z0l ⟨bs, dr, tk, up, sm, [p0, p1, p2, p3]⟩ sets = z0o [p0, p1, p2, p3] sets (z0o [p0, p1, p2, p3] sets ([⟨sm, sm⟩]) p0.at_) p1.at_ := by simp [z0l, z2o, z2n, e2, e3, n01, Ne.symm (show p0.at_ ≠ p1.at_ from n01)]
 rw [hv]
 generalize ho1 : z0o [p0, p1, p2, p3] sets ([⟨sm, sm⟩]) p0.at_ = o1 at *
 generalize ht1 : togL [p0, p2, p3] (nth sets p0.at_.toNat) = t1 at *
 generalize ho2 : z0o [p0, p1, p2, p3] sets (o1) p1.at_ = o2 at *
 generalize ht2 : togL [p1] (nth sets p1.at_.toNat) = t2 at *
 have hF := z0x o2 (by have := A2.2; omega)
 have hL := z1g o2 (by have := A2.2; omega)
 clear hS hv ho1 ht1 l1 ho2 ht2 l2
 refine z0v z0j ?_
 unfold z0g
 (repeat' (first | (simp (disch := omega) only [push_cast, ↓zz, seval]) | (with_reducible first | refine And.intro ?_ ?_ | (first | refine z01 ?_ ?_ | refine z00 ?_ ?_) <;> intro hc <;> (try simp only [push_cast] at hc)) | omega | with_reducible intro _))
 refine z0m 6 ?_
 (repeat' (first | (simp (disch := omega) only [push_cast, ↓zz, seval, xx, List.mem_cons, List.not_mem_nil, or_false, false_or, not_or, not_false_eq_true, true_or, or_true, z1v, setM, e2, e3, n01]) | (with_reducible first | refine And.intro ?_ ?_ | (first | refine z01 ?_ ?_ | refine z00 ?_ ?_) <;> intro hc <;> (try simp only [push_cast] at hc)) | ((with_reducible refine z0b ?_)) | ((with_reducible refine z2f [1, 5] ?_)) | omega | with_reducible intro _))
 refine z0w 6 (fun env => [z0r 1 (env 6)]) [(1, z0d sets), (6, .map 0 1), (10, z06 [⟨sm, sm⟩]), (53, .lst 1 [.int .i64 p0.at_, .int .i64 p1.at_]), (54, .int .i64 2), (55, .int .i64 0)] [⟨0, 1, true, [.int .i64 p0.at_, z0s [p0, p2, p3], .int .i64 p1.at_, z0s [p1]]⟩] ?_ ?_
 · (repeat' (first | (simp (disch := omega) only [push_cast, ↓zz, seval, e2, e3, n01]) | (with_reducible first | refine And.intro ?_ ?_ | (first | refine z01 ?_ ?_ | refine z00 ?_ ?_) <;> intro hc <;> (try simp only [push_cast] at hc)) | omega | with_reducible intro _))
   all_goals (simp only [z2d, e2, e3, n01]; done)
 (repeat' (first | (simp (disch := omega) only [push_cast, ↓zz, seval, z1v, z1y, hg, e2, e3, n01]) | (with_reducible first | refine And.intro ?_ ?_ | (first | refine z01 ?_ ?_ | refine z00 ?_ ?_) <;> intro hc <;> (try simp only [push_cast] at hc)) | ((with_reducible refine z0b ?_)) | ((with_reducible first | refine eQ T1 ?_ | refine eQ P1 ?_)) | ((with_reducible first | refine eQ T2 ?_ | refine eQ P2 ?_)) | ((with_reducible first | refine eK hF ?_ | refine eK hL ?_)) | omega | with_reducible intro _))
 all_goals ((try simp only [*, decide_true, decide_false, Bool.true_and, Bool.false_and]); (repeat' (first | (simp (disch := omega) only [push_cast, ↓zz, seval, z1q]) | omega | (with_reducible refine And.intro ?_ ?_))))
theorem zrr (bs dr tk up sm : Int) (p0 p1 p2 p3 : Part) (sets : List (List Span)) (hs : z1u sm = true) (hS : z2u [p0, p1, p2, p3] sets) (e2 : p2.at_ = p0.at_) (e3 : p3.at_ = p1.at_) (n01 : ¬ p0.at_ = p1.at_) :
   PC Try.prog 101 [z1s ⟨bs, dr, tk, up, sm, [p0, p1, p2, p3]⟩, z0d sets] (.tup [z06 (z0l ⟨bs, dr, tk, up, sm, [p0, p1, p2, p3]⟩ sets), .bool (z1y (z0l ⟨bs, dr, tk, up, sm, [p0, p1, p2, p3]⟩ sets))]) := by
 have hg := z07 sets
 have b0 := z0a (hS.parts p0 (by simp))
 have b1 := z0a (hS.parts p1 (by simp))
 have b2 := z0a (hS.parts p2 (by simp))
 have b3 := z0a (hS.parts p3 (by simp))
 have A0 := z2p hs
 obtain ⟨T1, P1, A1⟩ := z09 (a := p0.at_) hS A0 (by omega) (by simp)
 have l1 : atL [p0, p1, p2, p3] p0.at_ = [p0, p2] := by simp [atL, e2, e3, n01, Ne.symm (show p0.at_ ≠ p1.at_ from n01)]
 rw [l1] at T1 P1
 obtain ⟨T2, P2, A2⟩ := z09 (a := p1.at_) hS A1 (by omega) (by simp)
 have l2 : atL [p0, p1, p2, p3] p1.at_ = [p1, p3] := by simp [atL, e2, e3, n01, Ne.symm (show p0.at_ ≠ p1.at_ from n01)]
 rw [l2] at T2 P2
 have hv : z0l ⟨bs, dr, tk, up, sm, [p0, p1, p2, p3]⟩ sets = z0o [p0, p1, p2, p3] sets (z0o [p0, p1, p2, p3] sets ([⟨sm, sm⟩]) p0.at_) p1.at_ := by simp [z0l, z2o, z2n, e2, e3, n01, Ne.symm (show p0.at_ ≠ p1.at_ from n01)]
 rw [hv]
 generalize ho1 : z0o [p0, p1, p2, p3] sets ([⟨sm, sm⟩]) p0.at_ = o1 at *
 generalize ht1 : togL [p0, p2] (nth sets p0.at_.toNat) = t1 at *
 generalize ho2 : z0o [p0, p1, p2, p3] sets (o1) p1.at_ = o2 at *
 generalize ht2 : togL [p1, p3] (nth sets p1.at_.toNat) = t2 at *
 have hF := z0x o2 (by have := A2.2; omega)
 have hL := z1g o2 (by have := A2.2; omega)
 clear hS hv ho1 ht1 l1 ho2 ht2 l2
 refine z0v z0j ?_
 unfold z0g
 (repeat' (first | (simp (disch := omega) only [push_cast, ↓zz, seval]) | (with_reducible first | refine And.intro ?_ ?_ | (first | refine z01 ?_ ?_ | refine z00 ?_ ?_) <;> intro hc <;> (try simp only [push_cast] at hc)) | omega | with_reducible intro _))
 refine z0m 6 ?_
 (repeat' (first | (simp (disch := omega) only [push_cast, ↓zz, seval, xx, List.mem_cons, List.not_mem_nil, or_false, false_or, not_or, not_false_eq_true, true_or, or_true, z1v, setM, e2, e3, n01]) | (with_reducible first | refine And.intro ?_ ?_ | (first | refine z01 ?_ ?_ | refine z00 ?_ ?_) <;> intro hc <;> (try simp only [push_cast] at hc)) | ((with_reducible refine z0b ?_)) | ((with_reducible refine z2f [1, 5, 8] ?_)) | omega | with_reducible intro _))
 refine z0w 6 (fun env => [z0r 1 (env 6)]) [(1, z0d sets), (6, .map 0 1), (10, z06 [⟨sm, sm⟩]), (53, .lst 1 [.int .i64 p0.at_, .int .i64 p1.at_]), (54, .int .i64 2), (55, .int .i64 0)] [⟨0, 1, true, [.int .i64 p0.at_, z0s [p0, p2], .int .i64 p1.at_, z0s [p1, p3]]⟩] ?_ ?_
 · (repeat' (first | (simp (disch := omega) only [push_cast, ↓zz, seval, e2, e3, n01]) | (with_reducible first | refine And.intro ?_ ?_ | (first | refine z01 ?_ ?_ | refine z00 ?_ ?_) <;> intro hc <;> (try simp only [push_cast] at hc)) | omega | with_reducible intro _))
   all_goals (simp only [z2d, e2, e3, n01]; done)
 (repeat' (first | (simp (disch := omega) only [push_cast, ↓zz, seval, z1v, z1y, hg, e2, e3, n01]) | (with_reducible first | refine And.intro ?_ ?_ | (first | refine z01 ?_ ?_ | refine z00 ?_ ?_) <;> intro hc <;> (try simp only [push_cast] at hc)) | ((with_reducible refine z0b ?_)) | ((with_reducible first | refine eQ T1 ?_ | refine eQ P1 ?_)) | ((with_reducible first | refine eQ T2 ?_ | refine eQ P2 ?_)) | ((with_reducible first | refine eK hF ?_ | refine eK hL ?_)) | omega | with_reducible intro _))
 all_goals ((try simp only [*, decide_true, decide_false, Bool.true_and, Bool.false_and]); (repeat' (first | (simp (disch := omega) only [push_cast, ↓zz, seval, z1q]) | omega | (with_reducible refine And.intro ?_ ?_))))
theorem zrs (bs dr tk up sm : Int) (p0 p1 p2 p3 : Part) (sets : List (List Span)) (hs : z1u sm = true) (hS : z2u [p0, p1, p2, p3] sets) (e2 : p2.at_ = p0.at_) (n01 : ¬ p0.at_ = p1.at_) (n03 : ¬ p0.at_ = p3.at_) (n13 : ¬ p1.at_ = p3.at_) :
   PC Try.prog 101 [z1s ⟨bs, dr, tk, up, sm, [p0, p1, p2, p3]⟩, z0d sets] (.tup [z06 (z0l ⟨bs, dr, tk, up, sm, [p0, p1, p2, p3]⟩ sets), .bool (z1y (z0l ⟨bs, dr, tk, up, sm, [p0, p1, p2, p3]⟩ sets))]) := by
 have hg := z07 sets
 have b0 := z0a (hS.parts p0 (by simp))
 have b1 := z0a (hS.parts p1 (by simp))
 have b2 := z0a (hS.parts p2 (by simp))
 have b3 := z0a (hS.parts p3 (by simp))
 have A0 := z2p hs
 obtain ⟨T1, P1, A1⟩ := z09 (a := p0.at_) hS A0 (by omega) (by simp)
 have l1 : atL [p0, p1, p2, p3] p0.at_ = [p0, p2] := by simp [atL, e2, n01, n03, n13, Ne.symm (show p0.at_ ≠ p1.at_ from n01), Ne.symm (show p0.at_ ≠ p3.at_ from n03), Ne.symm (show p1.at_ ≠ p3.at_ from n13)]
 rw [l1] at T1 P1
 obtain ⟨T2, P2, A2⟩ := z09 (a := p1.at_) hS A1 (by omega) (by simp)
 have l2 : atL [p0, p1, p2, p3] p1.at_ = [p1] := by simp [atL, e2, n01, n03, n13, Ne.symm (show p0.at_ ≠ p1.at_ from n01), Ne.symm (show p0.at_ ≠ p3.at_ from n03), Ne.symm (show p1.at_ ≠ p3.at_ from n13)]
 rw [l2] at T2 P2
 obtain ⟨T3, P3, A3⟩ := z09 (a := p3.at_) hS A2 (by omega) (by simp)
 have l3 : atL [p0, p1, p2, p3] p3.at_ = [p3] := by simp [atL, e2, n01, n03, n13, Ne.symm (show p0.at_ ≠ p1.at_ from n01), Ne.symm (show p0.at_ ≠ p3.at_ from n03), Ne.symm (show p1.at_ ≠ p3.at_ from n13)]
 rw [l3] at T3 P3
 have hv : z0l ⟨bs, dr, tk, up, sm, [p0, p1, p2, p3]⟩ sets = z0o [p0, p1, p2, p3] sets (z0o [p0, p1, p2, p3] sets (z0o [p0, p1, p2, p3] sets ([⟨sm, sm⟩]) p0.at_) p1.at_) p3.at_ := by simp [z0l, z2o, z2n, e2, n01, n03, n13, Ne.symm (show p0.at_ ≠ p1.at_ from n01), Ne.symm (show p0.at_ ≠ p3.at_ from n03), Ne.symm (show p1.at_ ≠ p3.at_ from n13)]
 rw [hv]
 generalize ho1 : z0o [p0, p1, p2, p3] sets ([⟨sm, sm⟩]) p0.at_ = o1 at *
 generalize ht1 : togL [p0, p2] (nth sets p0.at_.toNat) = t1 at *
 generalize ho2 : z0o [p0, p1, p2, p3] sets (o1) p1.at_ = o2 at *
 generalize ht2 : togL [p1] (nth sets p1.at_.toNat) = t2 at *
 generalize ho3 : z0o [p0, p1, p2, p3] sets (o2) p3.at_ = o3 at *
 generalize ht3 : togL [p3] (nth sets p3.at_.toNat) = t3 at *
 have hF := z0x o3 (by have := A3.2; omega)
 have hL := z1g o3 (by have := A3.2; omega)
 clear hS hv ho1 ht1 l1 ho2 ht2 l2 ho3 ht3 l3
 refine z0v z0j ?_
 unfold z0g
 (repeat' (first | (simp (disch := omega) only [push_cast, ↓zz, seval]) | (with_reducible first | refine And.intro ?_ ?_ | (first | refine z01 ?_ ?_ | refine z00 ?_ ?_) <;> intro hc <;> (try simp only [push_cast] at hc)) | omega | with_reducible intro _))
 refine z0m 6 ?_
 (repeat' (first | (simp (disch := omega) only [push_cast, ↓zz, seval, xx, List.mem_cons, List.not_mem_nil, or_false, false_or, not_or, not_false_eq_true, true_or, or_true, z1v, setM, e2, n01, n03, n13]) | (with_reducible first | refine And.intro ?_ ?_ | (first | refine z01 ?_ ?_ | refine z00 ?_ ?_) <;> intro hc <;> (try simp only [push_cast] at hc)) | ((with_reducible refine z0b ?_)) | ((with_reducible refine z2f [1, 5] ?_)) | omega | with_reducible intro _))
 refine z0w 6 (fun env => [z0r 1 (env 6)]) [(1, z0d sets), (6, .map 0 1), (10, z06 [⟨sm, sm⟩]), (53, .lst 1 [.int .i64 p0.at_, .int .i64 p1.at_, .int .i64 p3.at_]), (54, .int .i64 3), (55, .int .i64 0)] [⟨0, 1, true, [.int .i64 p0.at_, z0s [p0, p2], .int .i64 p1.at_, z0s [p1], .int .i64 p3.at_, z0s [p3]]⟩] ?_ ?_
 · (repeat' (first | (simp (disch := omega) only [push_cast, ↓zz, seval, e2, n01, n03, n13]) | (with_reducible first | refine And.intro ?_ ?_ | (first | refine z01 ?_ ?_ | refine z00 ?_ ?_) <;> intro hc <;> (try simp only [push_cast] at hc)) | omega | with_reducible intro _))
   all_goals (simp only [z2d, e2, n01, n03, n13]; done)
 (repeat' (first | (simp (disch := omega) only [push_cast, ↓zz, seval, z1v, z1y, hg, e2, n01, n03, n13]) | (with_reducible first | refine And.intro ?_ ?_ | (first | refine z01 ?_ ?_ | refine z00 ?_ ?_) <;> intro hc <;> (try simp only [push_cast] at hc)) | ((with_reducible refine z0b ?_)) | ((with_reducible first | refine eQ T1 ?_ | refine eQ P1 ?_)) | ((with_reducible first | refine eQ T2 ?_ | refine eQ P2 ?_)) | ((with_reducible first | refine eQ T3 ?_ | refine eQ P3 ?_)) | ((with_reducible first | refine eK hF ?_ | refine eK hL ?_)) | omega | with_reducible intro _))
 all_goals ((try simp only [*, decide_true, decide_false, Bool.true_and, Bool.false_and]); (repeat' (first | (simp (disch := omega) only [push_cast, ↓zz, seval, z1q]) | omega | (with_reducible refine And.intro ?_ ?_))))
theorem zrt (bs dr tk up sm : Int) (p0 p1 p2 p3 : Part) (sets : List (List Span)) (hs : z1u sm = true) (hS : z2u [p0, p1, p2, p3] sets) (e2 : p2.at_ = p1.at_) (e3 : p3.at_ = p0.at_) (n01 : ¬ p0.at_ = p1.at_) :
   PC Try.prog 101 [z1s ⟨bs, dr, tk, up, sm, [p0, p1, p2, p3]⟩, z0d sets] (.tup [z06 (z0l ⟨bs, dr, tk, up, sm, [p0, p1, p2, p3]⟩ sets), .bool (z1y (z0l ⟨bs, dr, tk, up, sm, [p0, p1, p2, p3]⟩ sets))]) := by
 have hg := z07 sets
 have b0 := z0a (hS.parts p0 (by simp))
 have b1 := z0a (hS.parts p1 (by simp))
 have b2 := z0a (hS.parts p2 (by simp))
 have b3 := z0a (hS.parts p3 (by simp))
 have A0 := z2p hs
 obtain ⟨T1, P1, A1⟩ := z09 (a := p0.at_) hS A0 (by omega) (by simp)
 have l1 : atL [p0, p1, p2, p3] p0.at_ = [p0, p3] := by simp [atL, e2, e3, n01, Ne.symm (show p0.at_ ≠ p1.at_ from n01)]
 rw [l1] at T1 P1
 obtain ⟨T2, P2, A2⟩ := z09 (a := p1.at_) hS A1 (by omega) (by simp)
 have l2 : atL [p0, p1, p2, p3] p1.at_ = [p1, p2] := by simp [atL, e2, e3, n01, Ne.symm (show p0.at_ ≠ p1.at_ from n01)]
 rw [l2] at T2 P2
 have hv : z0l ⟨bs, dr, tk, up, sm, [p0, p1, p2, p3]⟩ sets = z0o [p0, p1, p2, p3] sets (z0o [p0, p1, p2, p3] sets ([⟨sm, sm⟩]) p0.at_) p1.at_ := by simp [z0l, z2o, z2n, e2, e3, n01, Ne.symm (show p0.at_ ≠ p1.at_ from n01)]
 rw [hv]
 generalize ho1 : z0o [p0, p1, p2, p3] sets ([⟨sm, sm⟩]) p0.at_ = o1 at *
 generalize ht1 : togL [p0, p3] (nth sets p0.at_.toNat) = t1 at *
 generalize ho2 : z0o [p0, p1, p2, p3] sets (o1) p1.at_ = o2 at *
 generalize ht2 : togL [p1, p2] (nth sets p1.at_.toNat) = t2 at *
 have hF := z0x o2 (by have := A2.2; omega)
 have hL := z1g o2 (by have := A2.2; omega)
 clear hS hv ho1 ht1 l1 ho2 ht2 l2
 refine z0v z0j ?_
 unfold z0g
 (repeat' (first | (simp (disch := omega) only [push_cast, ↓zz, seval]) | (with_reducible first | refine And.intro ?_ ?_ | (first | refine z01 ?_ ?_ | refine z00 ?_ ?_) <;> intro hc <;> (try simp only [push_cast] at hc)) | omega | with_reducible intro _))
 refine z0m 6 ?_
 (repeat' (first | (simp (disch := omega) only [push_cast, ↓zz, seval, xx, List.mem_cons, List.not_mem_nil, or_false, false_or, not_or, not_false_eq_true, true_or, or_true, z1v, setM, e2, e3, n01]) | (with_reducible first | refine And.intro ?_ ?_ | (first | refine z01 ?_ ?_ | refine z00 ?_ ?_) <;> intro hc <;> (try simp only [push_cast] at hc)) | ((with_reducible refine z0b ?_)) | ((with_reducible refine z2f [1, 5, 8] ?_)) | omega | with_reducible intro _))
 refine z0w 6 (fun env => [z0r 1 (env 6)]) [(1, z0d sets), (6, .map 0 1), (10, z06 [⟨sm, sm⟩]), (53, .lst 1 [.int .i64 p0.at_, .int .i64 p1.at_]), (54, .int .i64 2), (55, .int .i64 0)] [⟨0, 1, true, [.int .i64 p0.at_, z0s [p0, p3], .int .i64 p1.at_, z0s [p1, p2]]⟩] ?_ ?_
 · (repeat' (first | (simp (disch := omega) only [push_cast, ↓zz, seval, e2, e3, n01]) | (with_reducible first | refine And.intro ?_ ?_ | (first | refine z01 ?_ ?_ | refine z00 ?_ ?_) <;> intro hc <;> (try simp only [push_cast] at hc)) | omega | with_reducible intro _))
   all_goals (simp only [z2d, e2, e3, n01]; done)
 (repeat' (first | (simp (disch := omega) only [push_cast, ↓zz, seval, z1v, z1y, hg, e2, e3, n01]) | (with_reducible first | refine And.intro ?_ ?_ | (first | refine z01 ?_ ?_ | refine z00 ?_ ?_) <;> intro hc <;> (try simp only [push_cast] at hc)) | ((with_reducible refine z0b ?_)) | ((with_reducible first | refine eQ T1 ?_ | refine eQ P1 ?_)) | ((with_reducible first | refine eQ T2 ?_ | refine eQ P2 ?_)) | ((with_reducible first | refine eK hF ?_ | refine eK hL ?_)) | omega | with_reducible intro _))
 all_goals ((try simp only [*, decide_true, decide_false, Bool.true_and, Bool.false_and]); (repeat' (first | (simp (disch := omega) only [push_cast, ↓zz, seval, z1q]) | omega | (with_reducible refine And.intro ?_ ?_))))
theorem zru (bs dr tk up sm : Int) (p0 p1 p2 p3 : Part) (sets : List (List Span)) (hs : z1u sm = true) (hS : z2u [p0, p1, p2, p3] sets) (e2 : p2.at_ = p1.at_) (e3 : p3.at_ = p1.at_) (n01 : ¬ p0.at_ = p1.at_) :
   PC Try.prog 101 [z1s ⟨bs, dr, tk, up, sm, [p0, p1, p2, p3]⟩, z0d sets] (.tup [z06 (z0l ⟨bs, dr, tk, up, sm, [p0, p1, p2, p3]⟩ sets), .bool (z1y (z0l ⟨bs, dr, tk, up, sm, [p0, p1, p2, p3]⟩ sets))]) := by
 have hg := z07 sets
 have b0 := z0a (hS.parts p0 (by simp))
 have b1 := z0a (hS.parts p1 (by simp))
 have b2 := z0a (hS.parts p2 (by simp))
 have b3 := z0a (hS.parts p3 (by simp))
 have A0 := z2p hs
 obtain ⟨T1, P1, A1⟩ := z09 (a := p0.at_) hS A0 (by omega) (by simp)
 have l1 : atL [p0, p1, p2, p3] p0.at_ = [p0] := by simp [atL, e2, e3, n01, Ne.symm (show p0.at_ ≠ p1.at_ from n01)]
 rw [l1] at T1 P1
 obtain ⟨T2, P2, A2⟩ := z09 (a := p1.at_) hS A1 (by omega) (by simp)
 have l2 : atL [p0, p1, p2, p3] p1.at_ = [p1, p2, p3] := by simp [atL, e2, e3, n01, Ne.symm (show p0.at_ ≠ p1.at_ from n01)]
 rw [l2] at T2 P2
 have hv : z0l ⟨bs, dr, tk, up, sm, [p0, p1, p2, p3]⟩ sets = z0o [p0, p1, p2, p3] sets (z0o [p0, p1, p2, p3] sets ([⟨sm, sm⟩]) p0.at_) p1.at_ := by simp [z0l, z2o, z2n, e2, e3, n01, Ne.symm (show p0.at_ ≠ p1.at_ from n01)]
 rw [hv]
 generalize ho1 : z0o [p0, p1, p2, p3] sets ([⟨sm, sm⟩]) p0.at_ = o1 at *
 generalize ht1 : togL [p0] (nth sets p0.at_.toNat) = t1 at *
 generalize ho2 : z0o [p0, p1, p2, p3] sets (o1) p1.at_ = o2 at *
 generalize ht2 : togL [p1, p2, p3] (nth sets p1.at_.toNat) = t2 at *
 have hF := z0x o2 (by have := A2.2; omega)
 have hL := z1g o2 (by have := A2.2; omega)
 clear hS hv ho1 ht1 l1 ho2 ht2 l2
 refine z0v z0j ?_
 unfold z0g
 (repeat' (first | (simp (disch := omega) only [push_cast, ↓zz, seval]) | (with_reducible first | refine And.intro ?_ ?_ | (first | refine z01 ?_ ?_ | refine z00 ?_ ?_) <;> intro hc <;> (try simp only [push_cast] at hc)) | omega | with_reducible intro _))
 refine z0m 6 ?_
 (repeat' (first | (simp (disch := omega) only [push_cast, ↓zz, seval, xx, List.mem_cons, List.not_mem_nil, or_false, false_or, not_or, not_false_eq_true, true_or, or_true, z1v, setM, e2, e3, n01]) | (with_reducible first | refine And.intro ?_ ?_ | (first | refine z01 ?_ ?_ | refine z00 ?_ ?_) <;> intro hc <;> (try simp only [push_cast] at hc)) | ((with_reducible refine z0b ?_)) | ((with_reducible refine z2f [1, 8] ?_)) | omega | with_reducible intro _))
 refine z0w 6 (fun env => [z0r 1 (env 6)]) [(1, z0d sets), (6, .map 0 1), (10, z06 [⟨sm, sm⟩]), (53, .lst 1 [.int .i64 p0.at_, .int .i64 p1.at_]), (54, .int .i64 2), (55, .int .i64 0)] [⟨0, 1, true, [.int .i64 p0.at_, z0s [p0], .int .i64 p1.at_, z0s [p1, p2, p3]]⟩] ?_ ?_
 · (repeat' (first | (simp (disch := omega) only [push_cast, ↓zz, seval, e2, e3, n01]) | (with_reducible first | refine And.intro ?_ ?_ | (first | refine z01 ?_ ?_ | refine z00 ?_ ?_) <;> intro hc <;> (try simp only [push_cast] at hc)) | omega | with_reducible intro _))
   all_goals (simp only [z2d, e2, e3, n01]; done)
 (repeat' (first | (simp (disch := omega) only [push_cast, ↓zz, seval, z1v, z1y, hg, e2, e3, n01]) | (with_reducible first | refine And.intro ?_ ?_ | (first | refine z01 ?_ ?_ | refine z00 ?_ ?_) <;> intro hc <;> (try simp only [push_cast] at hc)) | ((with_reducible refine z0b ?_)) | ((with_reducible first | refine eQ T1 ?_ | refine eQ P1 ?_)) | ((with_reducible first | refine eQ T2 ?_ | refine eQ P2 ?_)) | ((with_reducible first | refine eK hF ?_ | refine eK hL ?_)) | omega | with_reducible intro _))
 all_goals ((try simp only [*, decide_true, decide_false, Bool.true_and, Bool.false_and]); (repeat' (first | (simp (disch := omega) only [push_cast, ↓zz, seval, z1q]) | omega | (with_reducible refine And.intro ?_ ?_))))
theorem zmh (bs dr tk up sm : Int) (p0 p1 p2 p3 : Part) (sets : List (List Span)) (hs : z1u sm = true) (hS : z2u [p0, p1, p2, p3] sets) (e2 : p2.at_ = p1.at_) (n01 : ¬ p0.at_ = p1.at_) (n03 : ¬ p0.at_ = p3.at_) (n13 : ¬ p1.at_ = p3.at_) :
   PC Try.prog 101 [z1s ⟨bs, dr, tk, up, sm, [p0, p1, p2, p3]⟩, z0d sets] (.tup [z06 (z0l ⟨bs, dr, tk, up, sm, [p0, p1, p2, p3]⟩ sets), .bool (z1y (z0l ⟨bs, dr, tk, up, sm, [p0, p1, p2, p3]⟩ sets))]) := by
 have hg := z07 sets
 have b0 := z0a (hS.parts p0 (by simp))
 have b1 := z0a (hS.parts p1 (by simp))
 have b2 := z0a (hS.parts p2 (by simp))
 have b3 := z0a (hS.parts p3 (by simp))
 have A0 := z2p hs
 obtain ⟨T1, P1, A1⟩ := z09 (a := p0.at_) hS A0 (by omega) (by simp)
 have l1 : atL [p0, p1, p2, p3] p0.at_ = [p0] := by simp [atL, e2, n01, n03, n13, Ne.symm (show p0.at_ ≠ p1.at_ from n01), Ne.symm (show p0.at_ ≠ p3.at_ from n03), Ne.symm (show p1.at_ ≠ p3.at_ from n13)]
 rw [l1] at T1 P1
 obtain ⟨T2, P2, A2⟩ := z09 (a := p1.at_) hS A1 (by omega) (by simp)
 have l2 : atL [p0, p1, p2, p3] p1.at_ = [p1, p2] := by simp [atL, e2, n01, n03, n13, Ne.symm (show p0.at_ ≠ p1.at_ from n01), Ne.symm (show p0.at_ ≠ p3.at_ from n03), Ne.symm (show p1.at_ ≠ p3.at_ from n13)]
 rw [l2] at T2 P2
 obtain ⟨T3, P3, A3⟩ := z09 (a := p3.at_) hS A2 (by omega) (by simp)
 have l3 : atL [p0, p1, p2, p3] p3.at_ = [p3] := by simp [atL, e2, n01, n03, n13, Ne.symm (show p0.at_ ≠ p1.at_ from n01), Ne.symm (show p0.at_ ≠ p3.at_ from n03), Ne.symm (show p1.at_ ≠ p3.at_ from n13)]
 rw [l3] at T3 P3
 have hv : z0l ⟨bs, dr, tk, up, sm, [p0, p1, p2, p3]⟩ sets = z0o [p0, p1, p2, p3] sets (z0o [p0, p1, p2, p3] sets (z0o [p0, p1, p2, p3] sets ([⟨sm, sm⟩]) p0.at_) p1.at_) p3.at_ := by simp [z0l, z2o, z2n, e2, n01, n03, n13, Ne.symm (show p0.at_ ≠ p1.at_ from n01), Ne.symm (show p0.at_ ≠ p3.at_ from n03), Ne.symm (show p1.at_ ≠ p3.at_ from n13)]
 rw [hv]
 generalize ho1 : z0o [p0, p1, p2, p3] sets ([⟨sm, sm⟩]) p0.at_ = o1 at *
 generalize ht1 : togL [p0] (nth sets p0.at_.toNat) = t1 at *
 generalize ho2 : z0o [p0, p1, p2, p3] sets (o1) p1.at_ = o2 at *
 generalize ht2 : togL [p1, p2] (nth sets p1.at_.toNat) = t2 at *
 generalize ho3 : z0o [p0, p1, p2, p3] sets (o2) p3.at_ = o3 at *
 generalize ht3 : togL [p3] (nth sets p3.at_.toNat) = t3 at *
 have hF := z0x o3 (by have := A3.2; omega)
 have hL := z1g o3 (by have := A3.2; omega)
 clear hS hv ho1 ht1 l1 ho2 ht2 l2 ho3 ht3 l3
 refine z0v z0j ?_
 unfold z0g
 (repeat' (first | (simp (disch := omega) only [push_cast, ↓zz, seval]) | (with_reducible first | refine And.intro ?_ ?_ | (first | refine z01 ?_ ?_ | refine z00 ?_ ?_) <;> intro hc <;> (try simp only [push_cast] at hc)) | omega | with_reducible intro _))
 refine z0m 6 ?_
 (repeat' (first | (simp (disch := omega) only [push_cast, ↓zz, seval, xx, List.mem_cons, List.not_mem_nil, or_false, false_or, not_or, not_false_eq_true, true_or, or_true, z1v, setM, e2, n01, n03, n13]) | (with_reducible first | refine And.intro ?_ ?_ | (first | refine z01 ?_ ?_ | refine z00 ?_ ?_) <;> intro hc <;> (try simp only [push_cast] at hc)) | ((with_reducible refine z0b ?_)) | ((with_reducible refine z2f [1, 8] ?_)) | omega | with_reducible intro _))
 refine z0w 6 (fun env => [z0r 1 (env 6)]) [(1, z0d sets), (6, .map 0 1), (10, z06 [⟨sm, sm⟩]), (53, .lst 1 [.int .i64 p0.at_, .int .i64 p1.at_, .int .i64 p3.at_]), (54, .int .i64 3), (55, .int .i64 0)] [⟨0, 1, true, [.int .i64 p0.at_, z0s [p0], .int .i64 p1.at_, z0s [p1, p2], .int .i64 p3.at_, z0s [p3]]⟩] ?_ ?_
 · (repeat' (first | (simp (disch := omega) only [push_cast, ↓zz, seval, e2, n01, n03, n13]) | (with_reducible first | refine And.intro ?_ ?_ | (first | refine z01 ?_ ?_ | refine z00 ?_ ?_) <;> intro hc <;> (try simp only [push_cast] at hc)) | omega | with_reducible intro _))
   all_goals (simp only [z2d, e2, n01, n03, n13]; done)
 (repeat' (first | (simp (disch := omega) only [push_cast, ↓zz, seval, z1v, z1y, hg, e2, n01, n03, n13]) | (with_reducible first | refine And.intro ?_ ?_ | (first | refine z01 ?_ ?_ | refine z00 ?_ ?_) <;> intro hc <;> (try simp only [push_cast] at hc)) | ((with_reducible refine z0b ?_)) | ((with_reducible first | refine eQ T1 ?_ | refine eQ P1 ?_)) | ((with_reducible first | refine eQ T2 ?_ | refine eQ P2 ?_)) | ((with_reducible first | refine eQ T3 ?_ | refine eQ P3 ?_)) | ((with_reducible first | refine eK hF ?_ | refine eK hL ?_)) | omega | with_reducible intro _))
 all_goals ((try simp only [*, decide_true, decide_false, Bool.true_and, Bool.false_and]); (repeat' (first | (simp (disch := omega) only [push_cast, ↓zz, seval, z1q]) | omega | (with_reducible refine And.intro ?_ ?_))))
theorem zmi (bs dr tk up sm : Int) (p0 p1 p2 p3 : Part) (sets : List (List Span)) (hs : z1u sm = true) (hS : z2u [p0, p1, p2, p3] sets) (e3 : p3.at_ = p0.at_) (n01 : ¬ p0.at_ = p1.at_) (n02 : ¬ p0.at_ = p2.at_) (n12 : ¬ p1.at_ = p2.at_) :
   PC Try.prog 101 [z1s ⟨bs, dr, tk, up, sm, [p0, p1, p2, p3]⟩, z0d sets] (.tup [z06 (z0l ⟨bs, dr, tk, up, sm, [p0, p1, p2, p3]⟩ sets), .bool (z1y (z0l ⟨bs, dr, tk, up, sm, [p0, p1, p2, p3]⟩ sets))]) := by
 have hg := z07 sets
 have b0 := z0a (hS.parts p0 (by simp))
 have b1 := z0a (hS.parts p1 (by simp))
 have b2 := z0a (hS.parts p2 (by simp))
 have b3 := z0a (hS.parts p3 (by simp))
 have A0 := z2p hs
 obtain ⟨T1, P1, A1⟩ := z09 (a := p0.at_) hS A0 (by omega) (by simp)
 have l1 : atL [p0, p1, p2, p3] p0.at_ = [p0, p3] := by simp [atL, e3, n01, n02, n12, Ne.symm (show p0.at_ ≠ p1.at_ from n01), Ne.symm (show p0.at_ ≠ p2.at_ from n02), Ne.symm (show p1.at_ ≠ p2.at_ from n12)]
 rw [l1] at T1 P1
 obtain ⟨T2, P2, A2⟩ := z09 (a := p1.at_) hS A1 (by omega) (by simp)
 have l2 : atL [p0, p1, p2, p3] p1.at_ = [p1] := by simp [atL, e3, n01, n02, n12, Ne.symm (show p0.at_ ≠ p1.at_ from n01), Ne.symm (show p0.at_ ≠ p2.at_ from n02), Ne.symm (show p1.at_ ≠ p2.at_ from n12)]
 rw [l2] at T2 P2
 obtain ⟨T3, P3, A3⟩ := z09 (a := p2.at_) hS A2 (by omega) (by simp)
 have l3 : atL [p0, p1, p2, p3] p2.at_ = [p2] := by simp [atL, e3, n01, n02, n12, Ne.symm (show p0.at_ ≠ p1.at_ from n01), Ne.symm (show p0.at_ ≠ p2.at_ from n02), Ne.symm (show p1.at_ ≠ p2.at_ from n12)]
 rw [l3] at T3 P3
 have hv : z0l ⟨bs, dr, tk, up, sm, [p0, p1, p2, p3]⟩ sets = z0o [p0, p1, p2, p3] sets (z0o [p0, p1, p2, p3] sets (z0o [p0, p1, p2, p3] sets ([⟨sm, sm⟩]) p0.at_) p1.at_) p2.at_ := by simp [z0l, z2o, z2n, e3, n01, n02, n12, Ne.symm (show p0.at_ ≠ p1.at_ from n01), Ne.symm (show p0.at_ ≠ p2.at_ from n02), Ne.symm (show p1.at_ ≠ p2.at_ from n12)]
 rw [hv]
 generalize ho1 : z0o [p0, p1, p2, p3] sets ([⟨sm, sm⟩]) p0.at_ = o1 at *
 generalize ht1 : togL [p0, p3] (nth sets p0.at_.toNat) = t1 at *
 generalize ho2 : z0o [p0, p1, p2, p3] sets (o1) p1.at_ = o2 at *
 generalize ht2 : togL [p1] (nth sets p1.at_.toNat) = t2 at *
 generalize ho3 : z0o [p0, p1, p2, p3] sets (o2) p2.at_ = o3 at *
 generalize ht3 : togL [p2] (nth sets p2.at_.toNat) = t3 at *
 have hF := z0x o3 (by have := A3.2; omega)
 have hL := z1g o3 (by have := A3.2; omega)
 clear hS hv ho1 ht1 l1 ho2 ht2 l2 ho3 ht3 l3
 refine z0v z0j ?_
 unfold z0g
 (repeat' (first | (simp (disch := omega) only [push_cast, ↓zz, seval]) | (with_reducible first | refine And.intro ?_ ?_ | (first | refine z01 ?_ ?_ | refine z00 ?_ ?_) <;> intro hc <;> (try simp only [push_cast] at hc)) | omega | with_reducible intro _))
 refine z0m 6 ?_
 (repeat' (first | (simp (disch := omega) only [push_cast, ↓zz, seval, xx, List.mem_cons, List.not_mem_nil, or_false, false_or, not_or, not_false_eq_true, true_or, or_true, z1v, setM, e3, n01, n02, n12]) | (with_reducible first | refine And.intro ?_ ?_ | (first | refine z01 ?_ ?_ | refine z00 ?_ ?_) <;> intro hc <;> (try simp only [push_cast] at hc)) | ((with_reducible refine z0b ?_)) | ((with_reducible refine z2f [1, 5] ?_)) | omega | with_reducible intro _))
 refine z0w 6 (fun env => [z0r 1 (env 6)]) [(1, z0d sets), (6, .map 0 1), (10, z06 [⟨sm, sm⟩]), (53, .lst 1 [.int .i64 p0.at_, .int .i64 p1.at_, .int .i64 p2.at_]), (54, .int .i64 3), (55, .int .i64 0)] [⟨0, 1, true, [.int .i64 p0.at_, z0s [p0, p3], .int .i64 p1.at_, z0s [p1], .int .i64 p2.at_, z0s [p2]]⟩] ?_ ?_
 · (repeat' (first | (simp (disch := omega) only [push_cast, ↓zz, seval, e3, n01, n02, n12]) | (with_reducible first | refine And.intro ?_ ?_ | (first | refine z01 ?_ ?_ | refine z00 ?_ ?_) <;> intro hc <;> (try simp only [push_cast] at hc)) | omega | with_reducible intro _))
   all_goals (simp only [z2d, e3, n01, n02, n12]; done)
 (repeat' (first | (simp (disch := omega) only [push_cast, ↓zz, seval, z1v, z1y, hg, e3, n01, n02, n12]) | (with_reducible first | refine And.intro ?_ ?_ | (first | refine z01 ?_ ?_ | refine z00 ?_ ?_) <;> intro hc <;> (try simp only [push_cast] at hc)) | ((with_reducible refine z0b ?_)) | ((with_reducible first | refine eQ T1 ?_ | refine eQ P1 ?_)) | ((with_reducible first | refine eQ T2 ?_ | refine eQ P2 ?_)) | ((with_reducible first | refine eQ T3 ?_ | refine eQ P3 ?_)) | ((with_reducible first | refine eK hF ?_ | refine eK hL ?_)) | omega | with_reducible intro _))
 all_goals ((try simp only [*, decide_true, decide_false, Bool.true_and, Bool.false_and]); (repeat' (first | (simp (disch := omega) only [push_cast, ↓zz, seval, z1q]) | omega | (with_reducible refine And.intro ?_ ?_))))
theorem zmj (bs dr tk up sm : Int) (p0 p1 p2 p3 : Part) (sets : List (List Span)) (hs : z1u sm = true) (hS : z2u [p0, p1, p2, p3] sets) (e3 : p3.at_ = p1.at_) (n01 : ¬ p0.at_ = p1.at_) (n02 : ¬ p0.at_ = p2.at_) (n12 : ¬ p1.at_ = p2.at_) :
   PC Try.prog 101 [z1s ⟨bs, dr, tk, up, sm, [p0, p1, p2, p3]⟩, z0d sets] (.tup [z06 (z0l ⟨bs, dr, tk, up, sm, [p0, p1, p2, p3]⟩ sets), .bool (z1y (z0l ⟨bs, dr, tk, up, sm, [p0, p1, p2, p3]⟩ sets))]) := by
 have hg := z07 sets
 have b0 := z0a (hS.parts p0 (by simp))
 have b1 := z0a (hS.parts p1 (by simp))
 have b2 := z0a (hS.parts p2 (by simp))
 have b3 := z0a (hS.parts p3 (by simp))
 have A0 := z2p hs
 obtain ⟨T1, P1, A1⟩ := z09 (a := p0.at_) hS A0 (by omega) (by simp)
 have l1 : atL [p0, p1, p2, p3] p0.at_ = [p0] := by simp [atL, e3, n01, n02, n12, Ne.symm (show p0.at_ ≠ p1.at_ from n01), Ne.symm (show p0.at_ ≠ p2.at_ from n02), Ne.symm (show p1.at_ ≠ p2.at_ from n12)]
 rw [l1] at T1 P1
 obtain ⟨T2, P2, A2⟩ := z09 (a := p1.at_) hS A1 (by omega) (by simp)
 have l2 : atL [p0, p1, p2, p3] p1.at_ = [p1, p3] := by simp [atL, e3, n01, n02, n12, Ne.symm (show p0.at_ ≠ p1.at_ from n01), Ne.symm (show p0.at_ ≠ p2.at_ from n02), Ne.symm (show p1.at_ ≠ p2.at_ from n12)]
 rw [l2] at T2 P2
 obtain ⟨T3, P3, A3⟩ := z09 (a := p2.at_) hS A2 (by omega) (by simp)
 have l3 : atL [p0, p1, p2, p3] p2.at_ = [p2] := by simp [atL, e3, n01, n02, n12, Ne.symm (show p0.at_ ≠ p1.at_ from n01), Ne.symm (show p0.at_ ≠ p2.at_ from n02), Ne.symm (show p1.at_ ≠ p2.at_ from n12)]
 rw [l3] at T3 P3
 have hv : z0l ⟨bs, dr, tk, up, sm, [p0, p1, p2, p3]⟩ sets = z0o [p0, p1, p2, p3] sets (z0o [p0, p1, p2, p3] sets (z0o [p0, p1, p2, p3] sets ([⟨sm, sm⟩]) p0.at_) p1.at_) p2.at_ := by simp [z0l, z2o, z2n, e3, n01, n02, n12, Ne.symm (show p0.at_ ≠ p1.at_ from n01), Ne.symm (show p0.at_ ≠ p2.at_ from n02), Ne.symm (show p1.at_ ≠ p2.at_ from n12)]
 rw [hv]
 generalize ho1 : z0o [p0, p1, p2, p3] sets ([⟨sm, sm⟩]) p0.at_ = o1 at *
 generalize ht1 : togL [p0] (nth sets p0.at_.toNat) = t1 at *
 generalize ho2 : z0o [p0, p1, p2, p3] sets (o1) p1.at_ = o2 at *
 generalize ht2 : togL [p1, p3] (nth sets p1.at_.toNat) = t2 at *
 generalize ho3 : z0o [p0, p1, p2, p3] sets (o2) p2.at_ = o3 at *
 generalize ht3 : togL [p2] (nth sets p2.at_.toNat) = t3 at *
 have hF := z0x o3 (by have := A3.2; omega)
 have hL := z1g o3 (by have := A3.2; omega)
 clear hS hv ho1 ht1 l1 ho2 ht2 l2 ho3 ht3 l3
 refine z0v z0j ?_
 unfold z0g
 (repeat' (first | (simp (disch := omega) only [push_cast, ↓zz, seval]) | (with_reducible first | refine And.intro ?_ ?_ | (first | refine z01 ?_ ?_ | refine z00 ?_ ?_) <;> intro hc <;> (try simp only [push_cast] at hc)) | omega | with_reducible intro _))
 refine z0m 6 ?_
 (repeat' (first | (simp (disch := omega) only [push_cast, ↓zz, seval, xx, List.mem_cons, List.not_mem_nil, or_false, false_or, not_or, not_false_eq_true, true_or, or_true, z1v, setM, e3, n01, n02, n12]) | (with_reducible first | refine And.intro ?_ ?_ | (first | refine z01 ?_ ?_ | refine z00 ?_ ?_) <;> intro hc <;> (try simp only [push_cast] at hc)) | ((with_reducible refine z0b ?_)) | ((with_reducible refine z2f [1, 8] ?_)) | omega | with_reducible intro _))
 refine z0w 6 (fun env => [z0r 1 (env 6)]) [(1, z0d sets), (6, .map 0 1), (10, z06 [⟨sm, sm⟩]), (53, .lst 1 [.int .i64 p0.at_, .int .i64 p1.at_, .int .i64 p2.at_]), (54, .int .i64 3), (55, .int .i64 0)] [⟨0, 1, true, [.int .i64 p0.at_, z0s [p0], .int .i64 p1.at_, z0s [p1, p3], .int .i64 p2.at_, z0s [p2]]⟩] ?_ ?_
 · (repeat' (first | (simp (disch := omega) only [push_cast, ↓zz, seval, e3, n01, n02, n12]) | (with_reducible first | refine And.intro ?_ ?_ | (first | refine z01 ?_ ?_ | refine z00 ?_ ?_) <;> intro hc <;> (try simp only [push_cast] at hc)) | omega | with_reducible intro _))
   all_goals (simp only [z2d, e3, n01, n02, n12]; done)
 (repeat' (first | (simp (disch := omega) only [push_cast, ↓zz, seval, z1v, z1y, hg, e3, n01, n02, n12]) | (with_reducible first | refine And.intro ?_ ?_ | (first | refine z01 ?_ ?_ | refine z00 ?_ ?_) <;> intro hc <;> (try simp only [push_cast] at hc)) | ((with_reducible refine z0b ?_)) | ((with_reducible first | refine eQ T1 ?_ | refine eQ P1 ?_)) | ((with_reducible first | refine eQ T2 ?_ | refine eQ P2 ?_)) | ((with_reducible first | refine eQ T3 ?_ | refine eQ P3 ?_)) | ((with_reducible first | refine eK hF ?_ | refine eK hL ?_)) | omega | with_reducible intro _))
 all_goals ((try simp only [*, decide_true, decide_false, Bool.true_and, Bool.false_and]); (repeat' (first | (simp (disch := omega) only [push_cast, ↓zz, seval, z1q]) | omega | (with_reducible refine And.intro ?_ ?_))))
theorem zmk (bs dr tk up sm : Int) (p0 p1 p2 p3 : Part) (sets : List (List Span)) (hs : z1u sm = true) (hS : z2u [p0, p1, p2, p3] sets) (e3 : p3.at_ = p2.at_) (n01 : ¬ p0.at_ = p1.at_) (n02 : ¬ p0.at_ = p2.at_) (n12 : ¬ p1.at_ = p2.at_) :
   PC Try.prog 101 [z1s ⟨bs, dr, tk, up, sm, [p0, p1, p2, p3]⟩, z0d sets] (.tup [z06 (z0l ⟨bs, dr, tk, up, sm, [p0, p1, p2, p3]⟩ sets), .bool (z1y (z0l ⟨bs, dr, tk, up, sm, [p0, p1, p2, p3]⟩ sets))]) := by
 have hg := z07 sets
 have b0 := z0a (hS.parts p0 (by simp))
 have b1 := z0a (hS.parts p1 (by simp))
 have b2 := z0a (hS.parts p2 (by simp))
 have b3 := z0a (hS.parts p3 (by simp))
 have A0 := z2p hs
 obtain ⟨T1, P1, A1⟩ := z09 (a := p0.at_) hS A0 (by omega) (by simp)
 have l1 : atL [p0, p1, p2, p3] p0.at_ = [p0] := by simp [atL, e3, n01, n02, n12, Ne.symm (show p0.at_ ≠ p1.at_ from n01), Ne.symm (show p0.at_ ≠ p2.at_ from n02), Ne.symm (show p1.at_ ≠ p2.at_ from n12)]
 rw [l1] at T1 P1
 obtain ⟨T2, P2, A2⟩ := z09 (a := p1.at_) hS A1 (by omega) (by simp)
 have l2 : atL [p0, p1, p2, p3] p1.at_ = [p1] := by simp [atL, e3, n01, n02, n12, Ne.symm (show p0.at_ ≠ p1.at_ from n01), Ne.symm (show p0.at_ ≠ p2.at_ from n02), Ne.symm (show p1.at_ ≠ p2.at_ from n12)]
 rw [l2] at T2 P2
 obtain ⟨T3, P3, A3⟩ := z09 (a := p2.at_) hS A2 (by omega) (by simp)
 have l3 : atL [p0, p1, p2, p3] p2.at_ = [p2, p3] := by simp [atL, e3, n01, n02, n12, Ne.symm (show p0.at_ ≠ p1.at_ from n01), Ne.symm (show p0.at_ ≠ p2.at_ from n02), Ne.symm (show p1.at_ ≠ p2.at_ from n12)]
 rw [l3] at T3 P3
 have hv : z0l ⟨bs, dr, tk, up, sm, [p0, p1, p2, p3]⟩ sets = z0o [p0, p1, p2, p3] sets (z0o [p0, p1, p2, p3] sets (z0o [p0, p1, p2, p3] sets ([⟨sm, sm⟩]) p0.at_) p1.at_) p2.at_ := by simp [z0l, z2o, z2n, e3, n01, n02, n12, Ne.symm (show p0.at_ ≠ p1.at_ from n01), Ne.symm (show p0.at_ ≠ p2.at_ from n02), Ne.symm (show p1.at_ ≠ p2.at_ from n12)]
 rw [hv]
 generalize ho1 : z0o [p0, p1, p2, p3] sets ([⟨sm, sm⟩]) p0.at_ = o1 at *
 generalize ht1 : togL [p0] (nth sets p0.at_.toNat) = t1 at *
 generalize ho2 : z0o [p0, p1, p2, p3] sets (o1) p1.at_ = o2 at *
 generalize ht2 : togL [p1] (nth sets p1.at_.toNat) = t2 at *
 generalize ho3 : z0o [p0, p1, p2, p3] sets (o2) p2.at_ = o3 at *
 generalize ht3 : togL [p2, p3] (nth sets p2.at_.toNat) = t3 at *
 have hF := z0x o3 (by have := A3.2; omega)
 have hL := z1g o3 (by have := A3.2; omega)
 clear hS hv ho1 ht1 l1 ho2 ht2 l2 ho3 ht3 l3
 refine z0v z0j ?_
 unfold z0g
 (repeat' (first | (simp (disch := omega) only [push_cast, ↓zz, seval]) | (with_reducible first | refine And.intro ?_ ?_ | (first | refine z01 ?_ ?_ | refine z00 ?_ ?_) <;> intro hc <;> (try simp only [push_cast] at hc)) | omega | with_reducible intro _))
 refine z0m 6 ?_
 (repeat' (first | (simp (disch := omega) only [push_cast, ↓zz, seval, xx, List.mem_cons, List.not_mem_nil, or_false, false_or, not_or, not_false_eq_true, true_or, or_true, z1v, setM, e3, n01, n02, n12]) | (with_reducible first | refine And.intro ?_ ?_ | (first | refine z01 ?_ ?_ | refine z00 ?_ ?_) <;> intro hc <;> (try simp only [push_cast] at hc)) | ((with_reducible refine z0b ?_)) | ((with_reducible refine z2f [1, 11] ?_)) | omega | with_reducible intro _))
 refine z0w 6 (fun env => [z0r 1 (env 6)]) [(1, z0d sets), (6, .map 0 1), (10, z06 [⟨sm, sm⟩]), (53, .lst 1 [.int .i64 p0.at_, .int .i64 p1.at_, .int .i64 p2.at_]), (54, .int .i64 3), (55, .int .i64 0)] [⟨0, 1, true, [.int .i64 p0.at_, z0s [p0], .int .i64 p1.at_, z0s [p1], .int .i64 p2.at_, z0s [p2, p3]]⟩] ?_ ?_
 · (repeat' (first | (simp (disch := omega) only [push_cast, ↓zz, seval, e3, n01, n02, n12]) | (with_reducible first | refine And.intro ?_ ?_ | (first | refine z01 ?_ ?_ | refine z00 ?_ ?_) <;> intro hc <;> (try simp only [push_cast] at hc)) | omega | with_reducible intro _))
   all_goals (simp only [z2d, e3, n01, n02, n12]; done)
 (repeat' (first | (simp (disch := omega) only [push_cast, ↓zz, seval, z1v, z1y, hg, e3, n01, n02, n12]) | (with_reducible first | refine And.intro ?_ ?_ | (first | refine z01 ?_ ?_ | refine z00 ?_ ?_) <;> intro hc <;> (try simp only [push_cast] at hc)) | ((with_reducible refine z0b ?_)) | ((with_reducible first | refine eQ T1 ?_ | refine eQ P1 ?_)) | ((with_reducible first | refine eQ T2 ?_ | refine eQ P2 ?_)) | ((with_reducible first | refine eQ T3 ?_ | refine eQ P3 ?_)) | ((with_reducible first | refine eK hF ?_ | refine eK hL ?_)) | omega | with_reducible intro _))
 all_goals ((try simp only [*, decide_true, decide_false, Bool.true_and, Bool.false_and]); (repeat' (first | (simp (disch := omega) only [push_cast, ↓zz, seval, z1q]) | omega | (with_reducible refine And.intro ?_ ?_))))
theorem zml (bs dr tk up sm : Int) (p0 p1 p2 p3 : Part) (sets : List (List Span)) (hs : z1u sm = true) (hS : z2u [p0, p1, p2, p3] sets) (n01 : ¬ p0.at_ = p1.at_) (n02 : ¬ p0.at_ = p2.at_) (n03 : ¬ p0.at_ = p3.at_) (n12 : ¬ p1.at_ = p2.at_) (n13 : ¬ p1.at_ = p3.at_) (n23 : ¬ p2.at_ = p3.at_) :
   PC Try.prog 101 [z1s ⟨bs, dr, tk, up, sm, [p0, p1, p2, p3]⟩, z0d sets] (.tup [z06 (z0l ⟨bs, dr, tk, up, sm, [p0, p1, p2, p3]⟩ sets), .bool (z1y (z0l ⟨bs, dr, tk, up, sm, [p0, p1, p2, p3]⟩ sets))]) := by
 have hg := z07 sets
 have b0 := z0a (hS.parts p0 (by simp))
 have b1 := z0a (hS.parts p1 (by simp))
 have b2 := z0a (hS.parts p2 (by simp))
 have b3 := z0a (hS.parts p3 (by simp))
 have A0 := z2p hs
 obtain ⟨T1, P1, A1⟩ := z09 (a := p0.at_) hS A0 (by omega) (by simp)
 have l1 : atL [p0, p1, p2, p3] p0.at_ = [p0] := by simp [atL, n01, n02, n03, n12, n13, n23, Ne.symm (show p0.at_ ≠ p1.at_ from n01), Ne.symm (show p0.at_ ≠ p2.at_ from n02), Ne.symm (show p0.at_ ≠ p3.at_ from n03), Ne.symm (show p1.at_ ≠ p2.at_ from n12), Ne.symm (show p1.at_ ≠ p3.at_ from n13), Ne.symm (show p2.at_ ≠ p3.at_ from n23)]
 rw [l1] at T1 P1
 obtain ⟨T2, P2, A2⟩ := z09 (a := p1.at_) hS A1 (by omega) (by simp)
 have l2 : atL [p0, p1, p2, p3] p1.at_ = [p1] := by simp [atL, n01, n02, n03, n12, n13, n23, Ne.symm (show p0.at_ ≠ p1.at_ from n01), Ne.symm (show p0.at_ ≠ p2.at_ from n02), Ne.symm (show p0.at_ ≠ p3.at_ from n03), Ne.symm (show p1.at_ ≠ p2.at_ from n12), Ne.symm (show p1.at_ ≠ p3.at_ from n13), Ne.symm (show p2.at_ ≠ p3.at_ from n23)]
 rw [l2] at T2 P2
 obtain ⟨T3, P3, A3⟩ := z09 (a := p2.at_) hS A2 (by omega) (by simp)
 have l3 : atL [p0, p1, p2, p3] p2.at_ = [p2] := by simp [atL, n01, n02, n03, n12, n13, n23, Ne.symm (show p0.at_ ≠ p1.at_ from n01), Ne.symm (show p0.at_ ≠ p2.at_ from n02), Ne.symm (show p0.at_ ≠ p3.at_ from n03), Ne.symm (show p1.at_ ≠ p2.at_ from n12), Ne.symm (show p1.at_ ≠ p3.at_ from n13), Ne.symm (show p2.at_ ≠ p3.at_ from n23)]
 rw [l3] at T3 P3
 obtain ⟨T4, P4, A4⟩ := z09 (a := p3.at_) hS A3 (by omega) (by simp)
 have l4 : atL [p0, p1, p2, p3] p3.at_ = [p3] := by simp [atL, n01, n02, n03, n12, n13, n23, Ne.symm (show p0.at_ ≠ p1.at_ from n01), Ne.symm (show p0.at_ ≠ p2.at_ from n02), Ne.symm (show p0.at_ ≠ p3.at_ from n03), Ne.symm (show p1.at_ ≠ p2.at_ from n12), Ne.symm (show p1.at_ ≠ p3.at_ from n13), Ne.symm (show p2.at_ ≠ p3.at_ from n23)]
 rw [l4] at T4 P4
 have hv : z0l ⟨bs, dr, tk, up, sm, [p0, p1, p2, p3]⟩ sets = z0o [p0, p1, p2, p3] sets (z0o [p0, p1, p2, p3] sets (z0o [p0, p1, p2, p3] sets (z0o [p0, p1, p2, p3] sets ([⟨sm, sm⟩]) p0.at_) p1.at_) p2.at_) p3.at_ := by simp [z0l, z2o, z2n, n01, n02, n03, n12, n13, n23, Ne.symm (show p0.at_ ≠ p1.at_ from n01), Ne.symm (show p0.at_ ≠ p2.at_ from n02), Ne.symm (show p0.at_ ≠ p3.at_ from n03), Ne.symm (show p1.at_ ≠ p2.at_ from n12), Ne.symm (show p1.at_ ≠ p3.at_ from n13), Ne.symm (show p2.at_ ≠ p3.at_ from n23)]
 rw [hv]
 generalize ho1 : z0o [p0, p1, p2, p3] sets ([⟨sm, sm⟩]) p0.at_ = o1 at *
 generalize ht1 : togL [p0] (nth sets p0.at_.toNat) = t1 at *
 generalize ho2 : z0o [p0, p1, p2, p3] sets (o1) p1.at_ = o2 at *
 generalize ht2 : togL [p1] (nth sets p1.at_.toNat) = t2 at *
 generalize ho3 : z0o [p0, p1, p2, p3] sets (o2) p2.at_ = o3 at *
 generalize ht3 : togL [p2] (nth sets p2.at_.toNat) = t3 at *
 generalize ho4 : z0o [p0, p1, p2, p3] sets (o3) p3.at_ = o4 at *
 generalize ht4 : togL [p3] (nth sets p3.at_.toNat) = t4 at *
 have hF := z0x o4 (by have := A4.2; omega)
 have hL := z1g o4 (by have := A4.2; omega)
 clear hS hv ho1 ht1 l1 ho2 ht2 l2 ho3 ht3 l3 ho4 ht4 l4
 refine z0v z0j ?_
 unfold z0g
 (repeat' (first | (simp (disch := omega) only [push_cast, ↓zz, seval]) | (with_reducible first | refine And.intro ?_ ?_ | (first | refine z01 ?_ ?_ | refine z00 ?_ ?_) <;> intro hc <;> (try simp only [push_cast] at hc)) | omega | with_reducible intro _))
 refine z0m 6 ?_
 (repeat' (first | (simp (disch := omega) only [push_cast, ↓zz, seval, xx, List.mem_cons, List.not_mem_nil, or_false, false_or, not_or, not_false_eq_true, true_or, or_true, z1v, setM, n01, n02, n03, n12, n13, n23]) | (with_reducible first | refine And.intro ?_ ?_ | (first | refine z01 ?_ ?_ | refine z00 ?_ ?_) <;> intro hc <;> (try simp only [push_cast] at hc)) | ((with_reducible refine z0b ?_)) | ((with_reducible refine z2f [1] ?_)) | omega | with_reducible intro _))
 refine z0w 6 (fun env => [z0r 1 (env 6)]) [(1, z0d sets), (6, .map 0 1), (10, z06 [⟨sm, sm⟩]), (53, .lst 1 [.int .i64 p0.at_, .int .i64 p1.at_, .int .i64 p2.at_, .int .i64 p3.at_]), (54, .int .i64 4), (55, .int .i64 0)] [⟨0, 1, true, [.int .i64 p0.at_, z0s [p0], .int .i64 p1.at_, z0s [p1], .int .i64 p2.at_, z0s [p2], .int .i64 p3.at_, z0s [p3]]⟩] ?_ ?_
 · (repeat' (first | (simp (disch := omega) only [push_cast, ↓zz, seval, n01, n02, n03, n12, n13, n23]) | (with_reducible first | refine And.intro ?_ ?_ | (first | refine z01 ?_ ?_ | refine z00 ?_ ?_) <;> intro hc <;> (try simp only [push_cast] at hc)) | omega | with_reducible intro _))
   all_goals (simp only [z2d, n01, n02, n03, n12, n13, n23]; done)
 (repeat' (first | (simp (disch := omega) only [push_cast, ↓zz, seval, z1v, z1y, hg, n01, n02, n03, n12, n13, n23]) | (with_reducible first | refine And.intro ?_ ?_ | (first | refine z01 ?_ ?_ | refine z00 ?_ ?_) <;> intro hc <;> (try simp only [push_cast] at hc)) | ((with_reducible refine z0b ?_)) | ((with_reducible first | refine eQ T1 ?_ | refine eQ P1 ?_)) | ((with_reducible first | refine eQ T2 ?_ | refine eQ P2 ?_)) | ((with_reducible first | refine eQ T3 ?_ | refine eQ P3 ?_)) | ((with_reducible first | refine eQ T4 ?_ | refine eQ P4 ?_)) | ((with_reducible first | refine eK hF ?_ | refine eK hL ?_)) | omega | with_reducible intro _))
 all_goals ((try simp only [*, decide_true, decide_false, Bool.true_and, Bool.false_and]); (repeat' (first | (simp (disch := omega) only [push_cast, ↓zz, seval, z1q]) | omega | (with_reducible refine And.intro ?_ ?_))))
theorem y0b (bs dr tk up sm : Int) (p0 p1 p2 p3 : Part) (sets : List (List Span)) (hs : z1u sm = true) (hS : z2u [p0, p1, p2, p3] sets) :
   PC Try.prog 101 [z1s ⟨bs, dr, tk, up, sm, [p0, p1, p2, p3]⟩, z0d sets] (.tup [z06 (z0l ⟨bs, dr, tk, up, sm, [p0, p1, p2, p3]⟩ sets), .bool (z1y (z0l ⟨bs, dr, tk, up, sm, [p0, p1, p2, p3]⟩ sets))]) := by
 rcases Classical.em (p1.at_ = p0.at_) with e1 | x01
 · skip
   rcases Classical.em (p2.at_ = p0.at_) with e2 | x02
   · skip
     rcases Classical.em (p3.at_ = p0.at_) with e3 | x03
     · skip
       exact zrl bs dr tk up sm p0 p1 p2 p3 sets hs hS e1 e2 e3
     have n03 : ¬ p0.at_ = p3.at_ := fun h => x03 h.symm
     exact zrm bs dr tk up sm p0 p1 p2 p3 sets hs hS e1 e2 n03
   have n02 : ¬ p0.at_ = p2.at_ := fun h => x02 h.symm
   rcases Classical.em (p3.at_ = p0.at_) with e3 | x03
   · skip
     exact zrn bs dr tk up sm p0 p1 p2 p3 sets hs hS e1 e3 n02
   have n03 : ¬ p0.at_ = p3.at_ := fun h => x03 h.symm
   rcases Classical.em (p3.at_ = p2.at_) with e3 | x23
   · skip
     exact zro bs dr tk up sm p0 p1 p2 p3 sets hs hS e1 e3 n02
   have n23 : ¬ p2.at_ = p3.at_ := fun h => x23 h.symm
   exact zrp bs dr tk up sm p0 p1 p2 p3 sets hs hS e1 n02 n03 n23
 have n01 : ¬ p0.at_ = p1.at_ := fun h => x01 h.symm
 rcases Classical.em (p2.at_ = p0.at_) with e2 | x02
 · skip
   rcases Classical.em (p3.at_ = p0.at_) with e3 | x03
   · skip
     exact zrq bs dr tk up sm p0 p1 p2 p3 sets hs hS e2 e3 n01
   have n03 : ¬ p0.at_ = p3.at_ := fun h => x03 h.symm
   rcases Classical.em (p3.at_ = p1.at_) with e3 | x13
   · skip
     exact zrr bs dr tk up sm p0 p1 p2 p3 sets hs hS e2 e3 n01
   have n13 : ¬ p1.at_ = p3.at_ := fun h => x13 h.symm
   exact zrs bs dr tk up sm p0 p1 p2 p3 sets hs hS e2 n01 n03 n13
 have n02 : ¬ p0.at_ = p2.at_ := fun h => x02 h.symm
 rcases Classical.em (p2.at_ = p1.at_) with e2 | x12
 · skip
   rcases Classical.em (p3.at_ = p0.at_) with e3 | x03
   · skip
     exact zrt bs dr tk up sm p0 p1 p2 p3 sets hs hS e2 e3 n01
   have n03 : ¬ p0.at_ = p3.at_ := fun h => x03 h.symm
   rcases Classical.em (p3.at_ = p1.at_) with e3 | x13
   · skip
     exact zru bs dr tk up sm p0 p1 p2 p3 sets hs hS e2 e3 n01
   have n13 : ¬ p1.at_ = p3.at_ := fun h => x13 h.symm
   exact zmh bs dr tk up sm p0 p1 p2 p3 sets hs hS e2 n01 n03 n13
 have n12 : ¬ p1.at_ = p2.at_ := fun h => x12 h.symm
 rcases Classical.em (p3.at_ = p0.at_) with e3 | x03
 · skip
   exact zmi bs dr tk up sm p0 p1 p2 p3 sets hs hS e3 n01 n02 n12
 have n03 : ¬ p0.at_ = p3.at_ := fun h => x03 h.symm
 rcases Classical.em (p3.at_ = p1.at_) with e3 | x13
 · skip
   exact zmj bs dr tk up sm p0 p1 p2 p3 sets hs hS e3 n01 n02 n12
 have n13 : ¬ p1.at_ = p3.at_ := fun h => x13 h.symm
 rcases Classical.em (p3.at_ = p2.at_) with e3 | x23
 · skip
   exact zmk bs dr tk up sm p0 p1 p2 p3 sets hs hS e3 n01 n02 n12
 have n23 : ¬ p2.at_ = p3.at_ := fun h => x23 h.symm
 exact zml bs dr tk up sm p0 p1 p2 p3 sets hs hS n01 n02 n03 n12 n13 n23
theorem zmm (t : Term) (sets : List (List Span)) (hl : t.parts.length ≤ 4) (hs : z1u t.sum = true) (hS : z2u t.parts sets) :
   PC Try.prog 101 [z1s t, z0d sets] (.tup [z06 (z0l t sets), .bool (z1y (z0l t sets))]) := by
 obtain ⟨bs, dr, tk, up, sm, l⟩ := t
 match l, hl, hS with
 | [], _, hS => exact y07 bs dr tk up sm sets hs hS
 | [p0], _, hS => exact y08 bs dr tk up sm p0 sets hs hS
 | [p0, p1], _, hS => exact y09 bs dr tk up sm p0 p1 sets hs hS
 | [p0, p1, p2], _, hS => exact y0a bs dr tk up sm p0 p1 p2 sets hs hS
 | [p0, p1, p2, p3], _, hS => exact y0b bs dr tk up sm p0 p1 p2 p3 sets hs hS
 | _ :: _ :: _ :: _ :: _ :: _, hl, _ => simp at hl
def midG (gs : List (List Span)) (k : Nat) : List (List Span) := (gs.take k).map symI ++ List.replicate (gs.length - k) []
theorem zp8 {gs : List (List Span)} {k : Nat} (h : k ≤ gs.length) : (midG gs k).length = gs.length := by simp [midG]; omega
theorem y0c (gs : List (List Span)) : midG gs gs.length = gs.map symI := by simp [midG]
theorem y0d {gs : List (List Span)} {k : Nat} (h : k < gs.length) : ((midG gs k).map z06).set k (z06 (symI (nth gs k))) = (midG gs (k + 1)).map z06 := by
 have e : gs.length - k = (gs.length - (k + 1)) + 1 := by omega
 rw [midG, midG, take_at h, e, List.replicate_succ, List.map_append, List.set_append_right _ _ (by simp; omega)]
 simp [show min k gs.length = k by omega]
theorem y5s {gs : List (List Span)} {k : Nat} (h : k < gs.length) : nth (midG gs (k + 1)) k = symI (nth gs k) := by
 rw [midG, take_at h, nth, List.getD_eq_getElem?_getD, List.map_append, List.append_assoc, List.getElem?_append_right (by simp; omega)]
 simp [show min k gs.length = k by omega]
theorem y0e (n : Nat) : z0h (List.replicate n AV.nilS) = true := by
 induction n with
 | zero => rfl
 | succ n ih => simp [List.replicate_succ, z0h, AV.pure, ih]
theorem y0f (l : List Grp) (gs : List (List Span)) : leSL l (List.replicate gs.length .nilS) ((midG gs 0).map z06) := by
 simp only [midG, List.take_zero, List.map_nil, List.nil_append, Nat.sub_zero, List.map_replicate]
 generalize gs.length = n
 induction n with
 | zero => rfl
 | succ n ih => exact ⟨⟨by decide, rfl⟩, ih⟩
def zhu (gs : List (List Span)) (k : Nat) : Bool := (gs.take k).all fun g => decide (0 < ((symI g).length : Int))
theorem y0g {gs : List (List Span)} {k : Nat} (h : k < gs.length) : zhu gs (k + 1) = (zhu gs k && decide (0 < ((symI (nth gs k)).length : Int))) := by
 rw [zhu, take_at h, List.all_append]; simp [zhu]
def prtB (t : Term) (n : Int) : Bool := t.parts.all fun p => z4z p n
def z4a (t : Term) (gs : List (List Span)) : List Span × Bool :=
 if 4 < gs.length ∨ z4e t = false then ([], false) else if prtB t gs.length = false then ([], false) else
   if zhu gs gs.length = false then ([], true) else (z0l t (gs.map symI), z1y (z0l t (gs.map symI)))
theorem y9e {l : List Part} {n : Int} {k : Nat} (h : k < l.length) : (l.drop k).all (fun p => z4z p n) = (z4z (nth l k) n && (l.drop (k + 1)).all fun p => z4z p n) := by rw [drop_at h, List.all_cons]
theorem zrv {t : Term} {gs : List (List Span)} (h : prtB t gs.length = true) (hg : gs.length ≤ 4) : z2u t.parts (gs.map symI) where
 parts p hp := by
   rw [List.length_map]
   exact List.all_eq_true.1 h p hp
 syms s hs := by
   obtain ⟨g, _, rfl⟩ := List.mem_map.1 hs
   exact zvq g
 many := by simp; omega
theorem zrw (t : Term) (gs : List (List Span)) (ht : t.parts.length < 1000000000000) (hg : ∀ g ∈ gs, g.length ≤ 1000000) (hl : gs.length ≤ 9223372036854775807) :
   PC Try.prog 80 [z1s t, z0d gs] (.tup [z06 (z4a t gs).1, .bool (z4a t gs).2]) := by
 have hP := z07 gs
 have hN := z7h t ht
 have hY := zkf
 refine z0v zjz ?_
 unfold zbj
 by_cases h1 : 4 < gs.length ∨ z4e t = false
 · rw [z4a, if_pos h1]
   (repeat' (first | (simp (disch := omega) only [push_cast, ↓zz, seval]) | (with_reducible first | refine And.intro ?_ ?_ | (first | refine z01 ?_ ?_ | refine z00 ?_ ?_) <;> intro hc <;> (try simp only [push_cast] at hc)) | ((with_reducible first | refine eK hN ?_ | refine eQ hN ?_ | refine eG hN ?_)) | ((with_reducible first | refine cK hN ?_ | refine cQ hN ?_ | refine cG hN ?_); (simp (disch := omega) only [push_cast, ↓zz, seval]); (fail_if_success (with_reducible change False))) | omega | with_reducible intro _))
   all_goals first
     | ((repeat' (first | (simp (disch := omega) only [push_cast, ↓zz, seval, z1q]) | omega | (with_reducible refine And.intro ?_ ?_))); done)
     | (exfalso; rcases h1 with h1 | h1 <;> first | omega | simp_all)
 have h4 : gs.length ≤ 4 := by omega
 have hn : z4e t = true := by simpa using (not_or.1 h1).2
 (repeat' (first | (simp (disch := omega) only [push_cast, ↓zz, seval, hn]) | (with_reducible first | refine And.intro ?_ ?_ | (first | refine z01 ?_ ?_ | refine z00 ?_ ?_) <;> intro hc <;> (try simp only [push_cast] at hc)) | ((with_reducible first | refine eK hN ?_ | refine eQ hN ?_ | refine eG hN ?_)) | ((with_reducible first | refine cK hN ?_ | refine cQ hN ?_ | refine cG hN ?_); (simp (disch := omega) only [push_cast, ↓zz, seval, hn]); (fail_if_success (with_reducible change False))) | omega | with_reducible intro _))
 refine z0n (z0p (fun (k : Nat) => k ≤ gs.length) (fun k => gs.length - k)
   (fun k => [(1, z0d gs), (2, .ptr 0 1 0 0), (6, .bool (zhu gs k)), (7, .ref 1 1 0 gs.length), (23, z0d gs), (24, .int .i64 gs.length), (25, .int .i64 k)]) (fun k => [⟨6, 1, true, [z1s t]⟩, ⟨1, 1, true, (midG gs k).map z06⟩]) (fun env _ => [z0r 1 (env 2), z0r 1 (env 7)]) 0 (by simp) ?_ ?_)
 · have e := y0f
   have hr : z0h (List.replicate gs.length AV.nilS) = true := y0e gs.length
   have hs0 : zhu gs 0 = true := rfl
   (repeat' (first | (simp (disch := omega) only [push_cast, ↓zz, seval, hs0, hP, hr]) | (with_reducible first | refine And.intro ?_ ?_ | (first | refine z01 ?_ ?_ | refine z00 ?_ ?_) <;> intro hc <;> (try simp only [push_cast] at hc)) | omega | with_reducible intro _))
   all_goals exact e _ gs
 intro k hk
 have hml := zp8 hk
 have hpm := z07 (midG gs k)
 rcases Nat.lt_or_ge k gs.length with hkl | hkl
 · have hM := zdp (nth gs k) [⟨0, 1114111⟩] (by have := hg _ (z1o hkl); omega) (by simp)
   rw [y04] at hM
   have e1 := y0d hkl
   have e2 := y5s hkl
   have e3 := y0g hkl
   have hpm2 := z07 (midG gs (k + 1))
   have hml2 := zp8 (gs := gs) (k := k + 1) (by omega)
   refine W_T ?_
   (repeat' (first | (simp (disch := omega) only [push_cast, ↓zz, seval, hP, hpm, hpm2, hml, hml2, e1, e2]) | (with_reducible first | refine And.intro ?_ ?_ | (first | refine z01 ?_ ?_ | refine z00 ?_ ?_) <;> intro hc <;> (try simp only [push_cast] at hc)) | ((with_reducible first | refine eK hY ?_ | refine eQ hY ?_ | refine eG hY ?_)) | ((with_reducible first | refine eK hM ?_ | refine eQ hM ?_ | refine eG hM ?_)) | ((with_reducible first | refine cK hY ?_ | refine cQ hY ?_ | refine cG hY ?_); (simp (disch := omega) only [push_cast, ↓zz, seval, hP, hpm, hpm2, hml, hml2, e1, e2]); (fail_if_success (with_reducible change False))) | ((with_reducible first | refine cK hM ?_ | refine cQ hM ?_ | refine cG hM ?_); (simp (disch := omega) only [push_cast, ↓zz, seval, hP, hpm, hpm2, hml, hml2, e1, e2]); (fail_if_success (with_reducible change False))) | omega | with_reducible intro _))
   all_goals
     refine ⟨k + 1, ?_⟩
     (repeat' (first | (simp (disch := omega) only [push_cast, ↓zz, seval, e3]) | (with_reducible first | refine And.intro ?_ ?_ | (first | refine z01 ?_ ?_ | refine z00 ?_ ?_) <;> intro hc <;> (try simp only [push_cast] at hc)) | omega | with_reducible intro _))
   all_goals (simp only [*, Bool.true_and, Bool.false_and])
 · obtain rfl : k = gs.length := by omega
   rw [y0c] at *
   refine W_T ?_
   (repeat' (first | (simp (disch := omega) only [push_cast, ↓zz, seval, hP, hpm]) | (with_reducible first | refine And.intro ?_ ?_ | (first | refine z01 ?_ ?_ | refine z00 ?_ ?_) <;> intro hc <;> (try simp only [push_cast] at hc)) | omega | with_reducible intro _))
   refine z0n (z0p (fun (k : Nat) => k ≤ t.parts.length ∧ prtB t gs.length = (t.parts.drop k).all fun p => z4z p gs.length) (fun k => t.parts.length - k)
     (fun k => [(1, z0d gs), (2, .ptr 0 1 0 0), (6, .bool (zhu gs gs.length)), (7, z0d (gs.map symI)), (47, z0s t.parts), (48, .int .i64 t.parts.length), (49, .int .i64 k)]) (fun k => [⟨6, 1, true, [z1s t]⟩]) (fun env _ => [z0r 1 (env 2)]) 0 ⟨by simp, rfl⟩ ?_ ?_)
   · have et : List.take gs.length (gs.map symI) = gs.map symI := List.take_of_length_le (by simp)
     (repeat' (first | (simp (disch := omega) only [push_cast, ↓zz, seval, hP, hpm, et]) | (with_reducible first | refine And.intro ?_ ?_ | (first | refine z01 ?_ ?_ | refine z00 ?_ ?_) <;> intro hc <;> (try simp only [push_cast] at hc)) | omega | with_reducible intro _))
   rintro k ⟨k1, k2⟩
   rcases Nat.lt_or_ge k t.parts.length with hkp | hkp
   · have hR := z83 (nth t.parts k) gs.length
     rw [y9e hkp] at k2
     refine W_T ?_
     (repeat' (first | (simp (disch := omega) only [push_cast, ↓zz, seval, hP, hpm]) | (with_reducible first | refine And.intro ?_ ?_ | (first | refine z01 ?_ ?_ | refine z00 ?_ ?_) <;> intro hc <;> (try simp only [push_cast] at hc)) | ((with_reducible first | refine eK hR ?_ | refine eQ hR ?_ | refine eG hR ?_)) | ((with_reducible first | refine cK hR ?_ | refine cQ hR ?_ | refine cG hR ?_); (simp (disch := omega) only [push_cast, ↓zz, seval, hP, hpm]); (fail_if_success (with_reducible change False))) | omega | with_reducible intro _))
     · have hp : prtB t gs.length = false := by rw [k2]; simp [*]
       rw [z4a, if_neg h1, if_pos hp]
       (repeat' (first | (simp (disch := omega) only [push_cast, ↓zz, seval, z1q]) | omega | (with_reducible refine And.intro ?_ ?_)))
     · exact ⟨k + 1, by push_cast, ⟨by omega, by rw [k2]; simp [*]⟩, by omega⟩
   · rw [List.drop_of_length_le hkp] at k2
     have hp : prtB t gs.length = true := k2
     have hnum := hn
     simp only [z4e, Bool.and_eq_true, decide_eq_true_eq] at hnum
     have hV := zmm t (gs.map symI) hnum.2.2 hnum.1.1.2 (zrv hp h4)
     have hI : z4a t gs = if zhu gs gs.length = false then ([], true) else (z0l t (gs.map symI), z1y (z0l t (gs.map symI))) := by rw [z4a, if_neg h1, if_neg (by simp [hp])]
     refine W_T ?_
     (repeat' (first | (simp (disch := omega) only [push_cast, ↓zz, seval, hP, hpm]) | (with_reducible first | refine And.intro ?_ ?_ | (first | refine z01 ?_ ?_ | refine z00 ?_ ?_) <;> intro hc <;> (try simp only [push_cast] at hc)) | ((with_reducible first | refine eK hV ?_ | refine eQ hV ?_ | refine eG hV ?_)) | ((with_reducible first | refine cK hV ?_ | refine cQ hV ?_ | refine cG hV ?_); (simp (disch := omega) only [push_cast, ↓zz, seval, hP, hpm]); (fail_if_success (with_reducible change False))) | omega | with_reducible intro _))
     all_goals
       rw [hI]
       first
         | rw [if_pos (by assumption)]
         | rw [if_neg (by simp [*])]
       (repeat' (first | (simp (disch := omega) only [push_cast, ↓zz, seval, z1q]) | omega | (with_reducible refine And.intro ?_ ?_)))
     all_goals trace_state
def za1 (t : Term) (gs : List (List Span)) : List Span × Bool :=
 if (z4a t gs).2 = false then ([], false) else if (z4a t gs).1.length = 0 then ([], true) else (zkg (imgL t.outer (z4a t gs).1) t.base, true)
theorem zw2 (t : Term) (gs : List (List Span)) (h : z1u t.sum = true) : (z4a t gs).1.length ≤ 2147483649 := by
 unfold z4a
 repeat' split
 all_goals first | (simp; done) | skip
 unfold z0l
 have key : ∀ (pl : List Int) (out : List Span), Acc out → Acc (pl.foldl (z0o t.parts (gs.map symI)) out) := fun pl => by
   induction pl with
   | nil => exact fun out h => h
   | cons a pl ih => exact fun out h => ih _ (zp6 _ _)
 exact (key _ _ (z2p h)).2
theorem zrx (t : Term) (gs : List (List Span)) (ht : t.parts.length < 1000000000000) (hg : ∀ g ∈ gs, g.length ≤ 1000000) (hl : gs.length ≤ 9223372036854775807) :
   PC Try.prog 68 [z1s t, z0d gs] (.tup [z06 (za1 t gs).1, .bool (za1 t gs).2]) := by
 have hP := z07 gs
 have hI := zrw t gs ht hg hl
 have hO := z6f t
 have hlen : (z4a t gs).2 = true → (z4a t gs).1.length ≤ 2147483649 := fun h => by
   by_cases hs : z1u t.sum = true
   · exact zw2 t gs hs
   · have : z4e t = false := by simp [z4e, hs]
     rw [z4a, if_pos (.inr this)] at h
     cases h
 refine z0v zjw ?_
 unfold zbg
 rcases Bool.eq_false_or_eq_true (z4a t gs).2 with h2 | h2
 · have hl2 := hlen h2
   have hA := zht t.outer (z4a t gs).1
   have hM := zg1 t.outer (z4a t gs).1 (by omega)
   have hV := zvt (imgL t.outer (z4a t gs).1) t.base (by have := hA.2; omega)
   (repeat' (first | (simp (disch := omega) only [push_cast, ↓zz, seval, hP, h2]) | (with_reducible first | refine And.intro ?_ ?_ | (first | refine z01 ?_ ?_ | refine z00 ?_ ?_) <;> intro hc <;> (try simp only [push_cast] at hc)) | ((with_reducible first | refine eK hI ?_ | refine eQ hI ?_ | refine eG hI ?_)) | ((with_reducible first | refine eK hO ?_ | refine eQ hO ?_ | refine eG hO ?_)) | ((with_reducible first | refine eK hM ?_ | refine eQ hM ?_ | refine eG hM ?_)) | ((with_reducible first | refine eK hV ?_ | refine eQ hV ?_ | refine eG hV ?_)) | ((with_reducible first | refine cK hI ?_ | refine cQ hI ?_ | refine cG hI ?_); (simp (disch := omega) only [push_cast, ↓zz, seval, hP, h2]); (fail_if_success (with_reducible change False))) | ((with_reducible first | refine cK hO ?_ | refine cQ hO ?_ | refine cG hO ?_); (simp (disch := omega) only [push_cast, ↓zz, seval, hP, h2]); (fail_if_success (with_reducible change False))) | ((with_reducible first | refine cK hM ?_ | refine cQ hM ?_ | refine cG hM ?_); (simp (disch := omega) only [push_cast, ↓zz, seval, hP, h2]); (fail_if_success (with_reducible change False))) | ((with_reducible first | refine cK hV ?_ | refine cQ hV ?_ | refine cG hV ?_); (simp (disch := omega) only [push_cast, ↓zz, seval, hP, h2]); (fail_if_success (with_reducible change False))) | omega | with_reducible intro _))
   all_goals
     rw [za1, if_neg (by simp [h2])]
     first
       | rw [if_pos (by omega)]
       | rw [if_neg (by omega)]
     (repeat' (first | (simp (disch := omega) only [push_cast, ↓zz, seval, z1q]) | omega | (with_reducible refine And.intro ?_ ?_)))
 · (repeat' (first | (simp (disch := omega) only [push_cast, ↓zz, seval, hP, h2]) | (with_reducible first | refine And.intro ?_ ?_ | (first | refine z01 ?_ ?_ | refine z00 ?_ ?_) <;> intro hc <;> (try simp only [push_cast] at hc)) | ((with_reducible first | refine eK hI ?_ | refine eQ hI ?_ | refine eG hI ?_)) | ((with_reducible first | refine cK hI ?_ | refine cQ hI ?_ | refine cG hI ?_); (simp (disch := omega) only [push_cast, ↓zz, seval, hP, h2]); (fail_if_success (with_reducible change False))) | omega | with_reducible intro _))
   all_goals
     rw [za1, if_pos h2]
     (repeat' (first | (simp (disch := omega) only [push_cast, ↓zz, seval, z1q]) | omega | (with_reducible refine And.intro ?_ ?_)))
def zry (t : Term) (i o : Int) (gs : List (List Span)) : Bool := zbq t i o gs.length && ((za1 t gs).2 && decide (z7j (za1 t gs).1 (domL o) = []))
theorem zw3 (t : Term) (gs : List (List Span)) : (za1 t gs).1.length ≤ 2147483649 := by
 unfold za1
 repeat' split
 all_goals first | (simp; done) | skip
 have h1 := (zht t.outer (z4a t gs).1).2
 have h2 := y05 (imgL t.outer (z4a t gs).1) t.base
 simp only
 omega
theorem zw4 (s : Int) : (domL s).length ≤ 2 := by unfold domL; split <;> (try split) <;> simp
theorem zw5 (t : Term) (i o : Int) (gs : List (List Span)) (ht : t.parts.length < 1000000000000) (hg : ∀ g ∈ gs, g.length ≤ 1000000) (hl : gs.length ≤ 9223372036854775807) :
   PC Try.prog 52 [z1s t, .int .i64 i, .int .i64 o, z0d gs] (.bool (zry t i o gs)) := by
 have hP := z07 gs
 have hR := zqw t i o gs.length ht
 have hI := zrx t gs ht hg hl
 have hD := z3s o
 have hW := zdq (za1 t gs).1 (domL o) (by have := zw3 t gs; omega) (by have := zw4 o; omega)
 refine z0v zlw ?_
 unfold zd8 zry
 (repeat' (first | (simp (disch := omega) only [push_cast, ↓zz, seval, hP]) | (with_reducible first | refine And.intro ?_ ?_ | (first | refine z01 ?_ ?_ | refine z00 ?_ ?_) <;> intro hc <;> (try simp only [push_cast] at hc)) | ((with_reducible first | refine eK hR ?_ | refine eQ hR ?_ | refine eG hR ?_)) | ((with_reducible first | refine eK hI ?_ | refine eQ hI ?_ | refine eG hI ?_)) | ((with_reducible first | refine eK hD ?_ | refine eQ hD ?_ | refine eG hD ?_)) | ((with_reducible first | refine eK hW ?_ | refine eQ hW ?_ | refine eG hW ?_)) | ((with_reducible first | refine cK hR ?_ | refine cQ hR ?_ | refine cG hR ?_); (simp (disch := omega) only [push_cast, ↓zz, seval, hP]); (fail_if_success (with_reducible change False))) | ((with_reducible first | refine cK hI ?_ | refine cQ hI ?_ | refine cG hI ?_); (simp (disch := omega) only [push_cast, ↓zz, seval, hP]); (fail_if_success (with_reducible change False))) | ((with_reducible first | refine cK hD ?_ | refine cQ hD ?_ | refine cG hD ?_); (simp (disch := omega) only [push_cast, ↓zz, seval, hP]); (fail_if_success (with_reducible change False))) | ((with_reducible first | refine cK hW ?_ | refine cQ hW ?_ | refine cG hW ?_); (simp (disch := omega) only [push_cast, ↓zz, seval, hP]); (fail_if_success (with_reducible change False))) | omega | with_reducible intro _))
 all_goals simp only [*, Bool.true_and, Bool.false_and]
def ze1 : Int → List Span → Bool
 | _, [] => true
 | last, s :: l => decide (s.lo ≤ s.hi ∧ -1073741824 ≤ s.lo ∧ s.hi ≤ 1073741824 ∧ last + 1 < s.lo) && ze1 s.hi l
def zp9 (g : List Span) : Bool := ze1 (-1073741826) g
theorem zrz (g : List Span) (hl : g.length ≤ 9223372036854775807) : PC Try.prog 50 [z06 g] (.bool (zp9 g)) := by
 refine z0v zjq ?_
 unfold zba
 (repeat' (first | (simp (disch := omega) only [push_cast, ↓zz, seval]) | (with_reducible first | refine And.intro ?_ ?_ | (first | refine z01 ?_ ?_ | refine z00 ?_ ?_) <;> intro hc <;> (try simp only [push_cast] at hc)) | omega | with_reducible intro _))
 refine z0n (z0p (fun (s : Nat × Int) => s.1 ≤ g.length ∧ zp9 g = ze1 s.2 (g.drop s.1) ∧ -1073741826 ≤ s.2 ∧ s.2 ≤ 1073741824) (fun s => g.length - s.1)
   (fun s => [(3, .int .i64 s.2), (6, z06 g), (7, .int .i64 g.length), (8, .int .i64 s.1)]) (fun s => []) (fun _ _ => []) (0, -1073741826) ⟨by simp, rfl, by simp, by simp⟩ ?_ ?_)
 · (repeat' (first | (simp (disch := omega) only [push_cast, ↓zz, seval]) | (with_reducible first | refine And.intro ?_ ?_ | (first | refine z01 ?_ ?_ | refine z00 ?_ ?_) <;> intro hc <;> (try simp only [push_cast] at hc)) | omega | with_reducible intro _))
 rintro ⟨k, last⟩ ⟨h1, h2, h3, h4⟩
 simp only at h1 h2 h3 h4
 rcases Nat.lt_or_ge k g.length with hk | hk
 · rw [drop_at hk, ze1] at h2
   generalize hxe : nth g k = x at *
   have hw : IntKind.i64.wrap (last + 1) = last + 1 := IntWalk.i64_in _ (by omega)
   refine W_T ?_
   (repeat' (first | (simp (disch := omega) only [push_cast, ↓zz, seval, hw, hxe]) | (with_reducible first | refine And.intro ?_ ?_ | (first | refine z01 ?_ ?_ | refine z00 ?_ ?_) <;> intro hc <;> (try simp only [push_cast] at hc)) | omega | with_reducible intro _))
   all_goals first
     | (rw [h2, decide_eq_false (by omega), Bool.false_and]; done)
     | exact ⟨(k + 1, x.hi), ⟨rfl, by push_cast⟩, ⟨by simp only; omega, by rw [h2, decide_eq_true (by omega), Bool.true_and], by simp only; omega, by simp only; omega⟩, by simp only; omega⟩
 · rw [List.drop_of_length_le hk, ze1] at h2
   refine W_T ?_
   (repeat' (first | (simp (disch := omega) only [push_cast, ↓zz, seval, h2]) | (with_reducible first | refine And.intro ?_ ?_ | (first | refine z01 ?_ ?_ | refine z00 ?_ ?_) <;> intro hc <;> (try simp only [push_cast] at hc)) | omega | with_reducible intro _))
   all_goals trace_state
def zg3 (i : Int) (g : List Span) : Bool := !decide ((g.length : Int) = 0) && (decide ((g.length : Int) ≤ 64) && (zp9 g && decide (z7j g (domL i) = [])))
def z4g (i : Int) (gs : List (List Span)) : Bool := decide ((gs.length : Int) ≤ 4) && gs.all (zg3 i)
theorem ze2 (i : Int) (gs : List (List Span)) : PC Try.prog 32 [.int .i64 i, z0d gs] (.bool (z4g i gs)) := by
 have hP := z07 gs
 have hD := z3s i
 have hdl := zw4 i
 refine z0v zha ?_
 unfold z9n
 by_cases h4 : 4 < gs.length
 · rw [z4g, decide_eq_false (by omega), Bool.false_and]
   (repeat' (first | (simp (disch := omega) only [push_cast, ↓zz, seval]) | (with_reducible first | refine And.intro ?_ ?_ | (first | refine z01 ?_ ?_ | refine z00 ?_ ?_) <;> intro hc <;> (try simp only [push_cast] at hc)) | omega | with_reducible intro _))
 rw [z4g, decide_eq_true (by omega), Bool.true_and]
 (repeat' (first | (simp (disch := omega) only [push_cast, ↓zz, seval]) | (with_reducible first | refine And.intro ?_ ?_ | (first | refine z01 ?_ ?_ | refine z00 ?_ ?_) <;> intro hc <;> (try simp only [push_cast] at hc)) | ((with_reducible first | refine eK hD ?_ | refine eQ hD ?_ | refine eG hD ?_)) | ((with_reducible first | refine cK hD ?_ | refine cQ hD ?_ | refine cG hD ?_); (simp (disch := omega) only [push_cast, ↓zz, seval]); (fail_if_success (with_reducible change False))) | omega | with_reducible intro _))
 refine z0n (z0p (fun (k : Nat) => k ≤ gs.length ∧ gs.all (zg3 i) = (gs.drop k).all (zg3 i)) (fun k => gs.length - k)
   (fun k => [(5, z06 (domL i)), (13, z0d gs), (14, .int .i64 gs.length), (15, .int .i64 k)]) (fun s => []) (fun _ _ => []) 0 ⟨by simp, rfl⟩ ?_ ?_)
 · (repeat' (first | (simp (disch := omega) only [push_cast, ↓zz, seval, hP]) | (with_reducible first | refine And.intro ?_ ?_ | (first | refine z01 ?_ ?_ | refine z00 ?_ ?_) <;> intro hc <;> (try simp only [push_cast] at hc)) | omega | with_reducible intro _))
 rintro k ⟨h1, h2⟩
 rcases Nat.lt_or_ge k gs.length with hk | hk
 · rw [drop_at hk, List.all_cons, zg3] at h2
   generalize hge : nth gs k = g at *
   refine W_T ?_
   by_cases hl : (g.length : Int) = 0
   · rw [decide_eq_true hl, Bool.not_true, Bool.false_and, Bool.false_and] at h2
     (repeat' (first | (simp (disch := omega) only [push_cast, ↓zz, seval, hP, hge, h2]) | (with_reducible first | refine And.intro ?_ ?_ | (first | refine z01 ?_ ?_ | refine z00 ?_ ?_) <;> intro hc <;> (try simp only [push_cast] at hc)) | omega | with_reducible intro _))
   by_cases hl2 : (g.length : Int) ≤ 64
   · rw [decide_eq_false hl, decide_eq_true hl2, Bool.not_false, Bool.true_and, Bool.true_and] at h2
     have hW := zdq g (domL i) (by omega) (by omega)
     have hC := zrz g (by omega)
     (repeat' (first | (simp (disch := omega) only [push_cast, ↓zz, seval, hP, hge]) | (with_reducible first | refine And.intro ?_ ?_ | (first | refine z01 ?_ ?_ | refine z00 ?_ ?_) <;> intro hc <;> (try simp only [push_cast] at hc)) | ((with_reducible first | refine eK hC ?_ | refine eQ hC ?_ | refine eG hC ?_)) | ((with_reducible first | refine eK hW ?_ | refine eQ hW ?_ | refine eG hW ?_)) | ((with_reducible first | refine cK hC ?_ | refine cQ hC ?_ | refine cG hC ?_); (simp (disch := omega) only [push_cast, ↓zz, seval, hP, hge]); (fail_if_success (with_reducible change False))) | ((with_reducible first | refine cK hW ?_ | refine cQ hW ?_ | refine cG hW ?_); (simp (disch := omega) only [push_cast, ↓zz, seval, hP, hge]); (fail_if_success (with_reducible change False))) | omega | with_reducible intro _))
     all_goals first
       | (rw [h2]; simp [*]; done)
       | exact ⟨k + 1, by push_cast, ⟨by omega, by rw [h2]; simp [*]⟩, by omega⟩
   · rw [decide_eq_false hl2, Bool.false_and, Bool.and_false, Bool.false_and] at h2
     (repeat' (first | (simp (disch := omega) only [push_cast, ↓zz, seval, hP, hge, h2]) | (with_reducible first | refine And.intro ?_ ?_ | (first | refine z01 ?_ ?_ | refine z00 ?_ ?_) <;> intro hc <;> (try simp only [push_cast] at hc)) | omega | with_reducible intro _))
 · rw [List.drop_of_length_le hk, List.all_nil] at h2
   refine W_T ?_
   (repeat' (first | (simp (disch := omega) only [push_cast, ↓zz, seval, hP, h2]) | (with_reducible first | refine And.intro ?_ ?_ | (first | refine z01 ?_ ?_ | refine z00 ?_ ?_) <;> intro hc <;> (try simp only [push_cast] at hc)) | omega | with_reducible intro _))
   all_goals trace_state
def z5s (d : Desc) (s : Int) : Bool := decide (0 ≤ s) && decide (s < d.states)
theorem z86 (d : Desc) (s : Int) : PC Try.prog 31 [z2r d, .int .i64 s] (.bool (z5s d s)) := by
 refine z0v zjn ?_
 unfold zb7 z5s
 (repeat' (first | (simp (disch := omega) only [push_cast, ↓zz, seval]) | (with_reducible first | refine And.intro ?_ ?_ | (first | refine z01 ?_ ?_ | refine z00 ?_ ?_) <;> intro hc <;> (try simp only [push_cast] at hc)) | omega | with_reducible intro _))
 all_goals simp only [*, decide_true, decide_false, Bool.true_and, Bool.false_and]
def ze3 (d : Desc) : Bool := decide (0 < ((domL d.in_).length : Int)) && (decide (0 < ((domL d.out).length : Int)) && (decide (1 ≤ d.states) && (decide (d.states ≤ 1024) && (z5s d d.start && (decide ((d.rules.length : Int) ≤ 4096) && decide ((d.finals.length : Int) ≤ 4096))))))
theorem zw6 (d : Desc) : PC Try.prog 29 [z2r d] (.bool (ze3 d)) := by
 have h1 := z3s d.in_
 have h2 := z3s d.out
 have h3 := z86 d d.start
 refine z0v zlt ?_
 unfold zd5 ze3
 (repeat' (first | (simp (disch := omega) only [push_cast, ↓zz, seval]) | (with_reducible first | refine And.intro ?_ ?_ | (first | refine z01 ?_ ?_ | refine z00 ?_ ?_) <;> intro hc <;> (try simp only [push_cast] at hc)) | ((with_reducible first | refine eK h1 ?_ | refine eQ h1 ?_ | refine eG h1 ?_)) | ((with_reducible first | refine eK h2 ?_ | refine eQ h2 ?_ | refine eG h2 ?_)) | ((with_reducible first | refine eK h3 ?_ | refine eQ h3 ?_ | refine eG h3 ?_)) | ((with_reducible first | refine cK h1 ?_ | refine cQ h1 ?_ | refine cG h1 ?_); (simp (disch := omega) only [push_cast, ↓zz, seval]); (fail_if_success (with_reducible change False))) | ((with_reducible first | refine cK h2 ?_ | refine cQ h2 ?_ | refine cG h2 ?_); (simp (disch := omega) only [push_cast, ↓zz, seval]); (fail_if_success (with_reducible change False))) | ((with_reducible first | refine cK h3 ?_ | refine cQ h3 ?_ | refine cG h3 ?_); (simp (disch := omega) only [push_cast, ↓zz, seval]); (fail_if_success (with_reducible change False))) | omega | with_reducible intro _))
 all_goals simp only [*, decide_true, decide_false, Bool.true_and, Bool.false_and]
 all_goals trace_state
def z5i (d : Desc) (out : List Term) (gs : List (List Span)) : Bool := decide ((out.length : Int) ≤ 64) && out.all fun t => zry t d.in_ d.out gs
theorem ze4 (d : Desc) (out : List Term) (gs : List (List Span)) (ho : ∀ t ∈ out, t.parts.length < 1000000000000) (hg : ∀ g ∈ gs, g.length ≤ 1000000) (hl : gs.length ≤ 9223372036854775807) :
   PC Try.prog 33 [z2r d, z37 out, z0d gs] (.bool (z5i d out gs)) := by
 have hP := z07 gs
 have hT := z0z out
 refine z0v zhb ?_
 unfold z9o
 by_cases h4 : 64 < out.length
 · rw [z5i, decide_eq_false (by omega), Bool.false_and]
   (repeat' (first | (simp (disch := omega) only [push_cast, ↓zz, seval]) | (with_reducible first | refine And.intro ?_ ?_ | (first | refine z01 ?_ ?_ | refine z00 ?_ ?_) <;> intro hc <;> (try simp only [push_cast] at hc)) | omega | with_reducible intro _))
 rw [z5i, decide_eq_true (by omega), Bool.true_and]
 (repeat' (first | (simp (disch := omega) only [push_cast, ↓zz, seval]) | (with_reducible first | refine And.intro ?_ ?_ | (first | refine z01 ?_ ?_ | refine z00 ?_ ?_) <;> intro hc <;> (try simp only [push_cast] at hc)) | omega | with_reducible intro _))
 refine z0n (z0p (fun (k : Nat) => k ≤ out.length ∧ (out.all fun t => zry t d.in_ d.out gs) = (out.drop k).all fun t => zry t d.in_ d.out gs) (fun k => out.length - k)
   (fun k => [(2, z0d gs), (3, .ptr 0 1 0 0), (12, z37 out), (13, .int .i64 out.length), (14, .int .i64 k)]) (fun s => [⟨6, 1, true, [z2r d]⟩]) (fun env _ => [z0r 1 (env 3)]) 0 ⟨by simp, rfl⟩ ?_ ?_)
 · (repeat' (first | (simp (disch := omega) only [push_cast, ↓zz, seval, hP, hT]) | (with_reducible first | refine And.intro ?_ ?_ | (first | refine z01 ?_ ?_ | refine z00 ?_ ?_) <;> intro hc <;> (try simp only [push_cast] at hc)) | omega | with_reducible intro _))
 rintro k ⟨h1, h2⟩
 rcases Nat.lt_or_ge k out.length with hk | hk
 · rw [drop_at hk, List.all_cons] at h2
   have hF := zw5 (nth out k) d.in_ d.out gs (ho _ (z1o hk)) hg hl
   refine W_T ?_
   (repeat' (first | (simp (disch := omega) only [push_cast, ↓zz, seval, hP, hT]) | (with_reducible first | refine And.intro ?_ ?_ | (first | refine z01 ?_ ?_ | refine z00 ?_ ?_) <;> intro hc <;> (try simp only [push_cast] at hc)) | ((with_reducible first | refine eK hF ?_ | refine eQ hF ?_ | refine eG hF ?_)) | ((with_reducible first | refine cK hF ?_ | refine cQ hF ?_ | refine cG hF ?_); (simp (disch := omega) only [push_cast, ↓zz, seval, hP, hT]); (fail_if_success (with_reducible change False))) | omega | with_reducible intro _))
   all_goals first
     | (rw [h2]; simp [*]; done)
     | exact ⟨k + 1, by push_cast, ⟨by omega, by rw [h2]; simp [*]⟩, by omega⟩
 · rw [List.drop_of_length_le hk, List.all_nil] at h2
   refine W_T ?_
   (repeat' (first | (simp (disch := omega) only [push_cast, ↓zz, seval, hP, hT, h2]) | (with_reducible first | refine And.intro ?_ ?_ | (first | refine z01 ?_ ?_ | refine z00 ?_ ?_) <;> intro hc <;> (try simp only [push_cast] at hc)) | omega | with_reducible intro _))
   all_goals trace_state
def eatB (n e : Int) : Bool := !decide (e < min n 1) && !decide (n < e)
def z6g (d : Desc) (r : Rule) : Bool := z5s d r.from_ && (z5s d r.to_ && (z4g d.in_ r.guards && (eatB r.guards.length r.eat && z5i d r.out r.guards)))
theorem z5t {i : Int} {gs : List (List Span)} (h : z4g i gs = true) : gs.length ≤ 4 ∧ ∀ g ∈ gs, g.length ≤ 64 := by
 simp only [z4g, Bool.and_eq_true, decide_eq_true_eq] at h
 refine ⟨by omega, fun g hg => ?_⟩
 have := List.all_eq_true.1 h.2 g hg
 simp only [zg3, Bool.and_eq_true, decide_eq_true_eq] at this
 omega
theorem zw7 (d : Desc) (r : Rule) (ho : ∀ t ∈ r.out, t.parts.length < 1000000000000) : PC Try.prog 30 [z2r d, zbu r] (.bool (z6g d r)) := by
 have h1 := z86 d r.from_
 have h2 := z86 d r.to_
 have h3 := ze2 d.in_ r.guards
 have hP := z07 r.guards
 have hT := z0z r.out
 refine z0v zlu ?_
 unfold zd6 z6g eatB
 cases hg : z4g d.in_ r.guards with
 | false =>
   rw [hg] at h3
   (repeat' (first | (simp (disch := omega) only [push_cast, ↓zz, seval, hP, hT]) | (with_reducible first | refine And.intro ?_ ?_ | (first | refine z01 ?_ ?_ | refine z00 ?_ ?_) <;> intro hc <;> (try simp only [push_cast] at hc)) | ((with_reducible first | refine eK h1 ?_ | refine eQ h1 ?_ | refine eG h1 ?_)) | ((with_reducible first | refine eK h2 ?_ | refine eQ h2 ?_ | refine eG h2 ?_)) | ((with_reducible first | refine eK h3 ?_ | refine eQ h3 ?_ | refine eG h3 ?_)) | ((with_reducible first | refine cK h1 ?_ | refine cQ h1 ?_ | refine cG h1 ?_); (simp (disch := omega) only [push_cast, ↓zz, seval, hP, hT]); (fail_if_success (with_reducible change False))) | ((with_reducible first | refine cK h2 ?_ | refine cQ h2 ?_ | refine cG h2 ?_); (simp (disch := omega) only [push_cast, ↓zz, seval, hP, hT]); (fail_if_success (with_reducible change False))) | ((with_reducible first | refine cK h3 ?_ | refine cQ h3 ?_ | refine cG h3 ?_); (simp (disch := omega) only [push_cast, ↓zz, seval, hP, hT]); (fail_if_success (with_reducible change False))) | omega | with_reducible intro _))
   all_goals simp only [*, decide_true, decide_false, Bool.true_and, Bool.false_and, Bool.and_false]
 | true =>
   rw [hg] at h3
   obtain ⟨g1, g2⟩ := z5t hg
   have h4 := ze4 d r.out r.guards ho (fun g hg => by have := g2 g hg; omega) (by omega)
   (repeat' (first | (simp (disch := omega) only [push_cast, ↓zz, seval, hP, hT]) | (with_reducible first | refine And.intro ?_ ?_ | (first | refine z01 ?_ ?_ | refine z00 ?_ ?_) <;> intro hc <;> (try simp only [push_cast] at hc)) | ((with_reducible first | refine eK h1 ?_ | refine eQ h1 ?_ | refine eG h1 ?_)) | ((with_reducible first | refine eK h2 ?_ | refine eQ h2 ?_ | refine eG h2 ?_)) | ((with_reducible first | refine eK h3 ?_ | refine eQ h3 ?_ | refine eG h3 ?_)) | ((with_reducible first | refine eK h4 ?_ | refine eQ h4 ?_ | refine eG h4 ?_)) | ((with_reducible first | refine cK h1 ?_ | refine cQ h1 ?_ | refine cG h1 ?_); (simp (disch := omega) only [push_cast, ↓zz, seval, hP, hT]); (fail_if_success (with_reducible change False))) | ((with_reducible first | refine cK h2 ?_ | refine cQ h2 ?_ | refine cG h2 ?_); (simp (disch := omega) only [push_cast, ↓zz, seval, hP, hT]); (fail_if_success (with_reducible change False))) | ((with_reducible first | refine cK h3 ?_ | refine cQ h3 ?_ | refine cG h3 ?_); (simp (disch := omega) only [push_cast, ↓zz, seval, hP, hT]); (fail_if_success (with_reducible change False))) | ((with_reducible first | refine cK h4 ?_ | refine cQ h4 ?_ | refine cG h4 ?_); (simp (disch := omega) only [push_cast, ↓zz, seval, hP, hT]); (fail_if_success (with_reducible change False))) | omega | with_reducible intro _))
   all_goals simp only [*, decide_true, decide_false, Bool.true_and, Bool.false_and, Bool.and_false, Bool.not_true, Bool.not_false, Bool.and_true]
   all_goals trace_state
abbrev zmn (v : Nat) (l : List Int) : Grp := ⟨1, v, l.isEmpty, l.map (AV.int .i64)⟩
def famF (n : Nat) (V : Nat → Nat) (D : Nat → List Int) : List Grp := (List.range n).map fun i => zmn (V i) (D i)
def famT (n : Nat) (V : Nat → Nat) (D : Nat → List Int) : List AV := (List.range n).map fun i => AV.ref (i + 3) (V i) 0 (D i).length
def famI (n : Nat) (f : Nat → Int) : List AV := (List.range n).map fun i => AV.int .i64 (f i)
theorem z3z {α : Type} {n i : Nat} {f : Nat → α} {x : α} (h : i < n) : ((List.range n).map f).set i x = (List.range n).map fun j => if j = i then x else f j := by
 refine List.ext_getElem (by simp) fun j h1 h2 => ?_
 simp only [List.length_set, List.length_map, List.length_range] at h1
 simp only [List.getElem_set, List.getElem_map, List.getElem_range]
 by_cases e : i = j
 · rw [if_pos e, if_pos e.symm]
 · rw [if_neg e, if_neg fun h => e h.symm]
theorem z1r {α : Type} {n i : Nat} {f : Nat → α} {z : α} (h : i < n) : ((List.range n).map f).getD i z = f i := by simp [List.getD, h]
theorem z94 {ks : List Nat} {G : Grp} : ∀ {l : List Grp} {p i : Nat}, p + i ∈ ks → z2e p ks l (l.set i G)
 | [], p, i, h => trivial
 | a :: l, p, 0, h => ⟨.inl h, sameBut_refl⟩
 | a :: l, p, i + 1, h => ⟨.inr rfl, z94 (by rwa [show p + 1 + i = p + (i + 1) by omega])⟩
where sameBut_refl {ks : List Nat} : ∀ {l : List Grp} {p : Nat}, z2e p ks l l
 | [], p => trivial
 | a :: l, p => ⟨.inr rfl, sameBut_refl⟩
theorem zhv : ∀ (l : List Grp) (G G' : Grp), setQ (l ++ [G]) l.length G' = some (l ++ [G'])
 | [], _, _ => rfl
 | a :: l, G, G' => by rw [List.cons_append, List.length_cons, setQ, zhv l G G']; rfl
theorem zhw : ∀ (l : List Grp) (G G' : Grp) {i : Nat}, i < l.length → setQ (l ++ [G]) i G' = some (l.set i G' ++ [G])
 | [], _, _, i, h => by simp at h
 | a :: l, G, G', 0, h => rfl
 | a :: l, G, G', i + 1, h => by rw [List.cons_append, setQ, zhw l G G' (by simpa using h)]; rfl
def setV (V : Nat → Nat) (i v : Nat) (j : Nat) : Nat := if j = i then v else V j
structure CycOk (d : Desc) : Prop where
 st : 1 ≤ d.states ∧ d.states ≤ 1024
 len : d.rules.length ≤ 4096
 rul : ∀ r ∈ d.rules, (0 ≤ r.from_ ∧ r.from_ < d.states) ∧ 0 ≤ r.to_ ∧ r.to_ < d.states
def ze5 (d : Desc) (k : Nat) : Env := z3d [(1, .ptr 0 1 0 0), (3, .ref 1 1 0 d.states.toNat), (4, .ref 2 1 0 d.states.toNat), (21, z5q d.rules), (22, .int .i64 d.rules.length), (23, .int .i64 k)]
def z2y (d : Desc) (k : Nat) (V : Nat → Nat) : z02 := Abs.hl (⟨6, 1, true, [z2r d]⟩ :: ⟨1, 1, true, famT d.states.toNat V (toD (d.rules.take k))⟩ :: ⟨1, 1, true, famI d.states.toNat (inD (d.rules.take k))⟩ :: famF d.states.toNat V (toD (d.rules.take k)))
def cycL (d : Desc) (k : Nat) (V : Nat → Nat) : List Grp := ⟨6, 1, true, [z2r d]⟩ :: ⟨1, 1, true, famT d.states.toNat V (toD (d.rules.take k))⟩ :: ⟨1, 1, true, famI d.states.toNat (inD (d.rules.take k))⟩ :: famF d.states.toNat V (toD (d.rules.take k))
theorem zg4 (d : Desc) (k : Nat) (V : Nat → Nat) : z2y d k V = Abs.hl (cycL d k V) := rfl
theorem zhx (d : Desc) (k : Nat) (V : Nat → Nat) : (cycL d k V).length = d.states.toNat + 3 := by simp [cycL, famF]
theorem zg5 (d : Desc) : (z2r d).pure = true := by simp [z2r, AV.pure, z0h, z1a, z1b]
theorem zmo (d : Desc) (k : Nat) (V : Nat → Nat) : ∀ G ∈ cycL d k V, ltL (cycL d k V).length G.xs := fun G hG => by
 rw [zhx]
 simp only [cycL, List.mem_cons] at hG
 rcases hG with rfl | rfl | rfl | hG
 · exact z4d _ _ (by simp [z0h, zg5])
 · have key : ∀ (l : List Nat), (∀ i ∈ l, i < d.states.toNat) → ltL (d.states.toNat + 3) (l.map fun i => AV.ref (i + 3) (V i) 0 (toD (d.rules.take k) i).length) := fun l => by
     induction l with
     | nil => exact fun _ => trivial
     | cons i l ih =>
       intro h
       exact ⟨by have := h i (by simp); show i + 3 < _; omega, ih fun j hj => h j (by simp [hj])⟩
   exact key _ fun i hi => by simpa using hi
 · exact z4d _ _ (z2q.2 fun x hx => by
     obtain ⟨i, _, rfl⟩ := List.mem_map.1 hx
     rfl)
 · obtain ⟨i, _, rfl⟩ := List.mem_map.1 hG
   exact z4d _ _ (z3c .i64 _)
theorem zw8 {d : Desc} {k : Nat} {V : Nat → Nat} {env : Env} {l gar : List Grp} (hn : 1 ≤ d.states) (hl' : l = cycL d k V ++ gar)
   (h1 : env 1 = .ptr 0 1 0 0) (h3 : env 3 = .ref 1 1 0 d.states.toNat) (h4 : env 4 = .ref 2 1 0 d.states.toNat) (h21 : env 21 = z5q d.rules) (h22 : env 22 = .int .i64 d.rules.length) (h23 : env 23 = .int .i64 k) :
   Ent 105 0 env (Abs.hl l) (ze5 d k) (z2y d k V) := by
 rw [hl', zg4]
 refine (z80 [(1, .ptr 0 1 0 0), (3, .ref 1 1 0 d.states.toNat), (4, .ref 2 1 0 d.states.toNat), (21, z5q d.rules), (22, .int .i64 d.rules.length), (23, .int .i64 k)] (fun p hp => ?_)).trans (zh5 (by omega) (zmo d k V) fun i _ => ?_)
 · simp only [List.mem_cons, List.not_mem_nil, or_false] at hp
   rcases hp with rfl | rfl | rfl | rfl | rfl | rfl <;> assumption
 · rw [zhx]
   have hr : ltV (d.states.toNat + 3) (z5q d.rules) := zcu _ _ (by simp [z5q, AV.pure, z1a])
   simp only [z3d]
   repeat' split
   all_goals first
     | exact hr
     | trivial
     | (show _ < _; omega)
theorem y0h {n i : Nat} {V : Nat → Nat} {D : Nat → List Int} {x : Int} (h : i < n) : (famT n V D).set i (.ref (i + 3) (V i + 1) 0 ((D i).length + 1)) = famT n (setV V i (V i + 1)) fun p => if p = i then D i ++ [x] else D p := by
 rw [famT, z3z h, famT]
 refine List.map_congr_left fun j _ => ?_
 by_cases e : j = i
 · subst e; simp [setV]
 · simp [setV, e]
theorem y0i {n i : Nat} {V : Nat → Nat} {D : Nat → List Int} {x : Int} (h : i < n) : (famF n V D).set i ⟨1, V i + 1, false, (D i).map (AV.int .i64) ++ [.int .i64 x]⟩ = famF n (setV V i (V i + 1)) fun p => if p = i then D i ++ [x] else D p := by
 rw [famF, z3z h, famF]
 refine List.map_congr_left fun j _ => ?_
 by_cases e : j = i
 · subst e; simp [setV, zmn]
 · simp [setV, e]
theorem zc5 {n j : Nat} {f : Nat → Int} {x : Int} (h : j < n) : (famI n f).set j (.int .i64 x) = famI n fun p => if p = j then x else f p := by
 rw [famI, z3z h, famI]
 refine List.map_congr_left fun p _ => ?_
 by_cases e : p = j
 · subst e; simp
 · simp [e]
theorem y0j {l : List Rule} {k i : Nat} (hk : k < l.length) (hi : (nth l k).from_ = i) (he : z4q (nth l k) = true) : toD (l.take (k + 1)) = fun p => if p = i then toD (l.take k) i ++ [(nth l k).to_] else toD (l.take k) p := by
 funext p
 rw [take_at hk]
 simp only [toD, List.filter_append, List.map_append, List.filter_cons, List.filter_nil, he, Bool.true_and, hi, decide_eq_true_eq]
 by_cases e : p = i
 · subst e; simp
 · rw [if_neg (by omega), if_neg e]; simp
theorem y0k {l : List Rule} {k j : Nat} (hk : k < l.length) (hj : (nth l k).to_ = j) (he : z4q (nth l k) = true) : inD (l.take (k + 1)) = fun p => if p = j then inD (l.take k) j + 1 else inD (l.take k) p := by
 funext p
 rw [take_at hk]
 simp only [inD, List.filter_append, List.length_append, List.filter_cons, List.filter_nil, he, Bool.true_and, hj, decide_eq_true_eq]
 by_cases e : p = j
 · subst e; simp
 · rw [if_neg (by omega), if_neg e]; simp
theorem y0l {l : List Rule} {k : Nat} (hk : k < l.length) (he : z4q (nth l k) = false) : toD (l.take (k + 1)) = toD (l.take k) ∧ inD (l.take (k + 1)) = inD (l.take k) := by
 rw [take_at hk]
 refine ⟨?_, ?_⟩ <;> funext p <;> simp [toD, inD, he]
theorem zw9 (l : List Rule) (j : Nat) : 0 ≤ inD l j ∧ inD l j ≤ l.length := by
 have := List.length_filter_le (fun r => z4q r && decide (r.to_ = j)) l
 simp only [inD]; omega
theorem y1w (l : List Rule) (j : Nat) : (toD l j).length ≤ l.length := by
 have := List.length_filter_le (fun r => z4q r && decide (r.from_ = j)) l
 simp only [toD, List.length_map]; omega
theorem z95 (l0 : List Grp) : ∀ l : List Grp, z7a l0 l l
 | [] => trivial
 | G :: l => ⟨⟨rfl, rfl, id, z1l _ _⟩, z95 l0 l⟩
theorem y0m (n : Nat) : famF n (fun _ => 1) (toD []) = (List.replicate n 1).map z6z := by
 rw [List.map_replicate]
 refine List.ext_getElem (by simp [famF]) fun i h1 h2 => ?_
 simp only [famF, List.getElem_map, List.getElem_range, List.getElem_replicate]
 rfl
theorem y0n (n : Nat) : famI n (inD []) = List.replicate n (.int .i64 0) := by
 refine List.ext_getElem (by simp [famI]) fun i h1 h2 => ?_
 simp [famI, inD]
theorem zwa {l : List Grp} {n : Nat} (h : ∀ i, i < n → l.getD (i + 3) default = z6z 1 ∧ i + 3 < l.length) : leSL l (List.replicate n .nilS) (famT n (fun _ => 1) (toD [])) := by
 have key : ∀ idx : List Nat, (∀ i ∈ idx, i < n) → leSL l (List.replicate idx.length .nilS) (idx.map fun i => AV.ref (i + 3) 1 0 (toD [] i).length) := fun idx => by
   induction idx with
   | nil => exact fun _ => rfl
   | cons i idx ih =>
     intro hi
     obtain ⟨h1, h2⟩ := h i (hi i (by simp))
     refine ⟨?_, ih fun j hj => hi j (by simp [hj])⟩
     show 0 = 0 ∧ (toD [] i).length = 0 ∧ (l.getD (i + 3) default).ver = 1 ∧ 0 < (l.getD (i + 3) default).w ∧ (l.getD (i + 3) default).xs = [] ∧ (l.getD (i + 3) default).exact = true ∧ i + 3 < l.length
     rw [h1]
     exact ⟨rfl, rfl, rfl, by decide, rfl, rfl, h2⟩
 have := key (List.range n) fun i hi => by simpa using hi
 rwa [List.length_range] at this
theorem zwb {d : Desc} {env : Env} (h1 : env 1 = .ptr 0 1 0 0) (h3 : env 3 = .ref 1 1 0 d.states.toNat) (h4 : env 4 = .ref 2 1 0 d.states.toNat) (h21 : env 21 = z5q d.rules) (h22 : env 22 = .int .i64 d.rules.length) (h23 : env 23 = .int .i64 0) :
   Ent 105 0 env (Abs.hl [⟨6, 1, true, [z2r d]⟩, ⟨1, 1, true, List.replicate d.states.toNat .nilS⟩, ⟨1, 1, true, List.replicate d.states.toNat (.int .i64 0)⟩]) (ze5 d 0) (z2y d 0 fun _ => 1) := by
 refine (z80 [(1, .ptr 0 1 0 0), (3, .ref 1 1 0 d.states.toNat), (4, .ref 2 1 0 d.states.toNat), (21, z5q d.rules), (22, .int .i64 d.rules.length), (23, .int .i64 0)] (fun p hp => ?_)).trans
   ((zoq (List.replicate d.states.toNat 1) (fun w hw => by have := (List.mem_replicate.1 hw).2; omega)).trans (y1s ?_ fun i _ => zc1 _ _))
 · simp only [List.mem_cons, List.not_mem_nil, or_false] at hp
   rcases hp with rfl | rfl | rfl | rfl | rfl | rfl <;> assumption
 · rw [List.take_zero, y0m, y0n]
   refine ⟨⟨rfl, rfl, id, z1l _ _⟩, ⟨rfl, rfl, id, zwa fun i hi => ?_⟩, ⟨rfl, rfl, id, z1l _ _⟩, z95 _ _⟩
   refine ⟨?_, by simp; omega⟩
   rw [List.map_replicate]
   simp [List.getD, hi]
def zaq (n : Nat) (D : Nat → List Int) : AV := .lst 1 ((List.range n).map fun i => z4k (D i))
theorem zki {n b : Nat} {env : Env} {H H' : z02} (hn : H'.n = H.n) (h : ∀ g, g < H.n → H'.at_ g = H.at_ g) : Ent n b env H env H' := fun S val hb hS hv => ⟨S, rfl, .refl hb, hS.congr hn h, hv⟩
def za2 (n : Nat) : List Nat := 1 :: (List.range n).map (· + 3)
theorem zkj {n i : Nat} (h : i < n) : i + 3 ∈ za2 n := List.mem_cons.2 (.inr (List.mem_map.2 ⟨i, List.mem_range.2 h, rfl⟩))
theorem y1x (d : Desc) (k : Nat) (V : Nat → Nat) {i : Nat} (hi : i < d.states.toNat) : (z2y d k V).at_ (i + 3) = zmn (V i) (toD (d.rules.take k) i) := by
 rw [z2y, z2g]
 simp only [List.getD_cons_succ]
 exact z1r hi
theorem y5t (d : Desc) (k : Nat) (V : Nat → Nat) : z2j 2 ((z2y d k V).only (za2 d.states.toNat)) (.ref 1 1 0 d.states.toNat) ∧ frzV 2 ((z2y d k V).only (za2 d.states.toNat)) (.ref 1 1 0 d.states.toNat) = zaq d.states.toNat (toD (d.rules.take k)) := by
 have hat1 : ((z2y d k V).only (za2 d.states.toNat)).at_ 1 = ⟨1, 1, true, famT d.states.toNat V (toD (d.rules.take k))⟩ := by
   show (if 1 ∈ za2 d.states.toNat then (z2y d k V).at_ 1 else ((z2y d k V).at_ 1).dead) = _
   rw [if_pos (by simp [za2])]
   rfl
 have hat : ∀ i, i < d.states.toNat → ((z2y d k V).only (za2 d.states.toNat)).at_ (i + 3) = zmn (V i) (toD (d.rules.take k) i) := fun i hi => by
   show (if i + 3 ∈ za2 d.states.toNat then (z2y d k V).at_ (i + 3) else ((z2y d k V).at_ (i + 3)).dead) = _
   rw [if_pos (zkj hi)]
   exact y1x d k V hi
 have htl : (((famT d.states.toNat V (toD (d.rules.take k))).drop 0).take d.states.toNat) = famT d.states.toNat V (toD (d.rules.take k)) := by
   rw [List.drop_zero]; exact List.take_of_length_le (by simp [famT])
 constructor
 · refine ⟨by rw [hat1], by rw [hat1]; exact Nat.one_pos, by rw [hat1]; simp [famT], fun y hy => ?_⟩
   rw [hat1, htl] at hy
   obtain ⟨i, hi, rfl⟩ := List.mem_map.1 hy
   have hi' : i < d.states.toNat := by simpa using hi
   refine ⟨by rw [hat i hi'], by rw [hat i hi']; exact Nat.one_pos, by rw [hat i hi']; simp, fun z hz => ?_⟩
   rw [hat i hi'] at hz
   obtain ⟨u, _, rfl⟩ := List.mem_map.1 (List.mem_of_mem_drop (List.mem_of_mem_take hz))
   rfl
 · show AV.lst _ _ = _
   rw [hat1, htl, zaq, famT, List.map_map]
   congr 1
   refine List.map_congr_left fun i hi => ?_
   have hi' : i < d.states.toNat := by simpa using hi
   show AV.lst _ _ = _
   rw [hat i hi']
   have e : (((zmn (V i) (toD (d.rules.take k) i)).xs.drop 0).take (toD (d.rules.take k) i).length).map (frzV 0 ((z2y d k V).only (za2 d.states.toNat))) = (toD (d.rules.take k) i).map (AV.int .i64) := by
     rw [List.drop_zero, List.take_of_length_le (by simp [zmn])]
     refine (List.map_congr_left fun x hx => ?_).trans (List.map_id _)
     obtain ⟨u, _, rfl⟩ := List.mem_map.1 hx
     rfl
   rw [e]
def z87 (d : Desc) (k : Nat) : List (Nat × AV) := [(1, .ptr 0 1 0 0), (3, zaq d.states.toNat (toD (d.rules.take k))), (4, .ref 2 1 0 d.states.toNat), (7, .nilS), (52, .ref 2 1 0 d.states.toNat), (53, .int .i64 d.states.toNat), (54, .int .i64 0)]
theorem zs0 {d : Desc} {k : Nat} {V : Nat → Nat} {env : Env} (h1 : env 1 = .ptr 0 1 0 0) (h3 : env 3 = .ref 1 1 0 d.states.toNat) (h4 : env 4 = .ref 2 1 0 d.states.toNat) (h7 : env 7 = .nilS) (h52 : env 52 = .ref 2 1 0 d.states.toNat) (h53 : env 53 = .int .i64 d.states.toNat) (h54 : env 54 = .int .i64 0) :
   Ent 105 0 env (z2y d k V) (z3d (z87 d k)) (Abs.hl [⟨6, 1, true, [z2r d]⟩, ⟨0, 2, false, []⟩, ⟨1, 1, true, famI d.states.toNat (inD (d.rules.take k))⟩]) := by
 obtain ⟨f1, f2⟩ := y5t d k V
 rw [← h3] at f1 f2
 refine (zuy 3 2 (za2 d.states.toNat) f1).trans ((z80 (z87 d k) fun p hp => ?_).trans ((zki (H' := Abs.hl ([⟨6, 1, true, [z2r d]⟩, ⟨0, 2, false, []⟩, ⟨1, 1, true, famI d.states.toNat (inD (d.rules.take k))⟩] ++ (famF d.states.toNat V (toD (d.rules.take k))).map Grp.dead)) ?_ ?_).trans (zh5 (by omega) ?_ ?_)))
 · rw [f2]
   simp only [z87, List.mem_cons, List.not_mem_nil, or_false] at hp
   rcases hp with rfl | rfl | rfl | rfl | rfl | rfl | rfl <;> first | rfl | assumption
 · simp [z2y, z02.kill, Abs.hl]
 · intro g hg
   show _ = if g ∈ za2 d.states.toNat then ((z2y d k V).at_ g).dead else (z2y d k V).at_ g
   have hlen : (z2y d k V).n = d.states.toNat + 3 := zhx d k V
   have hg' : g < d.states.toNat + 3 := by rw [← hlen]; exact hg
   match g, hg' with
   | 0, _ => rw [if_neg (by simp [za2])]; rfl
   | 1, _ => rw [if_pos (by simp [za2])]; rfl
   | 2, _ => rw [if_neg (by simp [za2])]; rfl
   | i + 3, hi =>
     have hi' : i < d.states.toNat := by omega
     rw [if_pos (zkj hi'), y1x d k V hi', z2g]
     simp only [List.cons_append, List.nil_append, List.getD_cons_succ, famF, List.map_map]
     exact z1r hi'
 · intro G hG
   simp only [List.mem_cons, List.not_mem_nil, or_false] at hG
   rcases hG with rfl | rfl | rfl
   · exact z4d _ _ (by simp [z0h, zg5])
   · trivial
   · exact z4d _ _ (z2q.2 fun x hx => by
       obtain ⟨i, _, rfl⟩ := List.mem_map.1 hx
       rfl)
 · intro i _
   have hd : ltV 3 (zaq d.states.toNat (toD (d.rules.take k))) := trivial
   simp only [z3d, z87]
   repeat' split
   all_goals first
     | exact hd
     | trivial
     | (show _ < _; simp)
theorem zs1 (d : Desc) (hd : CycOk d) : PC Try.prog 34 [z2r d] (.bool (@decide (cycP d.rules d.states.toNat) (Classical.propDecidable _))) := by
 obtain ⟨⟨hn1, hn2⟩, hlen, hrul⟩ := hd
 have hP := z1a d.rules
 refine z0v zjo ?_
 unfold zb8
 (repeat' (first | (simp (disch := omega) only [push_cast, ↓zz, seval]) | (with_reducible first | refine And.intro ?_ ?_ | (first | refine z01 ?_ ?_ | refine z00 ?_ ?_) <;> intro hc <;> (try simp only [push_cast] at hc)) | omega | with_reducible intro _))
 refine z0n (zux (fun (s : Nat × (Nat → Nat)) => s.1 ≤ d.rules.length) (fun s => d.rules.length - s.1) (fun s => ze5 d s.1) (fun s => z2y d s.1 s.2) (0, fun _ => 1) (by simp) ?_ ?_)
 · exact zwb rfl rfl rfl rfl rfl rfl
 rintro ⟨k, V⟩ hk
 simp only at hk ⊢
 rcases Nat.lt_or_ge k d.rules.length with hkl | hkl
 · have hr := hrul _ (z1o hkl)
   generalize hre : nth d.rules k = r at *
   have hgr := z07 r.guards
   have hot := z0z r.out
   obtain ⟨n, hn⟩ : ∃ n : Nat, d.states = n := ⟨d.states.toNat, by omega⟩
   obtain ⟨i, hi⟩ : ∃ i : Nat, r.from_ = i := ⟨r.from_.toNat, by omega⟩
   obtain ⟨j, hj⟩ : ∃ j : Nat, r.to_ = j := ⟨r.to_.toNat, by omega⟩
   have hin : i < n := by omega
   have hjn : j < n := by omega
   have hni : ¬ n = i := by omega
   have ee : ze5 d k = z3d [(1, .ptr 0 1 0 0), (3, .ref 1 1 0 n), (4, .ref 2 1 0 n), (21, z5q d.rules), (22, .int .i64 d.rules.length), (23, .int .i64 k)] := by simp only [ze5, hn, Int.toNat_natCast]
   have eh : z2y d k V = Abs.hl (⟨6, 1, true, [z2r d]⟩ :: ⟨1, 1, true, famT n V (toD (d.rules.take k))⟩ :: ⟨1, 1, true, famI n (inD (d.rules.take k))⟩ :: famF n V (toD (d.rules.take k))) := by simp only [z2y, hn, Int.toNat_natCast]
   rw [ee, eh]
   clear ee eh
   have hFl : (famF n V (toD (d.rules.take k))).length = n := by simp [famF]
   have hTl : (famT n V (toD (d.rules.take k))).length = n := by simp [famT]
   have hIl : (famI n (inD (d.rules.take k))).length = n := by simp [famI]
   have gI : ∀ G, (famF n V (toD (d.rules.take k)) ++ [G]).getD i default = zmn (V i) (toD (d.rules.take k) i) := fun G => by
     rw [List.getD_eq_getElem?_getD, List.getElem?_append_left (by omega), ← List.getD_eq_getElem?_getD]
     exact z1r hin
   have gR : ∀ G, (famF n V (toD (d.rules.take k)) ++ [G]).getD n default = G := fun G => by
     rw [List.getD_eq_getElem?_getD, List.getElem?_append_right (by omega)]
     simp [hFl]
   have tI : (famT n V (toD (d.rules.take k))).getD i .any = .ref (i + 3) (V i) 0 (toD (d.rules.take k) i).length := z1r hin
   have iJ : (famI n (inD (d.rules.take k))).getD j .any = .int .i64 (inD (d.rules.take k) j) := z1r hjn
   have sR : ∀ G G', setQ (famF n V (toD (d.rules.take k)) ++ [G]) n G' = some (famF n V (toD (d.rules.take k)) ++ [G']) := fun G G' => by
     have := zhv (famF n V (toD (d.rules.take k))) G G'
     rwa [hFl] at this
   have sI : ∀ G G', setQ (famF n V (toD (d.rules.take k)) ++ [G]) i G' = some ((famF n V (toD (d.rules.take k))).set i G' ++ [G]) := fun G G' => zhw _ _ _ (by omega)
   have gR2 : ∀ G G', ((famF n V (toD (d.rules.take k))).set i G' ++ [G]).getD n default = G := fun G G' => by
     rw [List.getD_eq_getElem?_getD, List.getElem?_append_right (by simp [hFl])]
     simp [hFl]
   have hSB : ∀ R G, z2e 3 [i + 3] (famF n V (toD (d.rules.take k)) ++ [R]) ((famF n V (toD (d.rules.take k))).set i G ++ [R]) := fun R G => by
     rw [← List.set_append_left _ _ (by omega)]
     exact z94 (by simp; omega)
   generalize hF : famF n V (toD (d.rules.take k)) = F at *
   generalize hT : famT n V (toD (d.rules.take k)) = TT at *
   generalize hI : famI n (inD (d.rules.take k)) = II at *
   generalize hD : toD (d.rules.take k) i = Di at *
   generalize hJ : inD (d.rules.take k) j = Ij at *
   refine W_T ?_
   have hEx : (!Di.isEmpty || (Di.map (AV.int .i64)).isEmpty) = true := by cases Di <;> rfl
   have hDl : Di.length ≤ 4096 := by rw [← hD]; have := y1w (d.rules.take k) i; simp at this; omega
   have hJb : 0 ≤ Ij ∧ Ij ≤ 4096 := by rw [← hJ]; have := zw9 (d.rules.take k) j; simp at this; omega
   (repeat' (first | (simp (disch := omega) only [push_cast, ↓zz, seval, hP, hre, hi, hj, hFl, hTl, hIl, gI, gR, gR2, sR, sI, tI, iJ, List.cons_append, List.length_append, List.length_cons]) | (with_reducible first | refine And.intro ?_ ?_ | (first | refine z01 ?_ ?_ | refine z00 ?_ ?_) <;> intro hc <;> (try simp only [push_cast] at hc)) | omega | with_reducible intro _))
   · refine z2f [i + 3] ?_
     (repeat' (first | (simp (disch := omega) only [push_cast, ↓zz, seval, xx, List.mem_cons, List.not_mem_nil, or_false, false_or, not_or, not_false_eq_true, true_or, or_true, hP, hre, hi, hj, hFl, hTl, hIl, gI, gR, gR2, sR, sI, tI, iJ, List.cons_append, List.length_append, List.length_cons, hni, hEx]) | (with_reducible first | refine And.intro ?_ ?_ | (first | refine z01 ?_ ?_ | refine z00 ?_ ?_) <;> intro hc <;> (try simp only [push_cast] at hc)) | omega | with_reducible intro _))
     · exact hSB _ _
     have he : z4q (nth d.rules k) = true := by rw [hre, z4q]; simpa using ‹(r.guards.length : Int) = 0›
     have e1 := y0j (i := i) hkl (by rw [hre]; exact hi) he
     have e2 := y0k (j := j) hkl (by rw [hre]; exact hj) he
     refine ⟨(k + 1, setV V i (V i + 1)), zw8 (gar := [⟨5, 1, true, [.agg [.int .i64 i, .int .i64 j, z0d r.guards, .int .i64 r.eat, z37 r.out]]⟩]) hn1 ?_ ?_ ?_ ?_ ?_ ?_ ?_, by simp only; omega, by simp only; omega⟩
     · rw [cycL, e1, e2, hn, Int.toNat_natCast, ← hF, ← hT, ← hI, ← hD, ← hJ, hre, hj, y0h hin, zc5 hjn, y0i hin]
       rfl
     all_goals first | rfl | (rw [hn]; rfl)
   · have he : z4q (nth d.rules k) = false := by rw [hre, z4q]; simpa using ‹¬ (r.guards.length : Int) = 0›
     obtain ⟨e1, e2⟩ := y0l hkl he
     refine ⟨(k + 1, V), zw8 (gar := [⟨5, 1, true, [.agg [.int .i64 i, .int .i64 j, z0d r.guards, .int .i64 r.eat, z37 r.out]]⟩]) hn1 ?_ ?_ ?_ ?_ ?_ ?_ ?_, by simp only; omega, by simp only; omega⟩
     · rw [cycL, e1, e2, hn, Int.toNat_natCast, hF, hT, hI]
       rfl
     all_goals first | rfl | (rw [hn]; rfl)
 · obtain rfl : k = d.rules.length := by omega
   obtain ⟨n, hn⟩ : ∃ n : Nat, d.states = n := ⟨d.states.toNat, by omega⟩
   have ee : ze5 d d.rules.length = z3d [(1, .ptr 0 1 0 0), (3, .ref 1 1 0 n), (4, .ref 2 1 0 n), (21, z5q d.rules), (22, .int .i64 d.rules.length), (23, .int .i64 d.rules.length)] := by simp only [ze5, hn, Int.toNat_natCast]
   refine W_T ?_
   rw [ee, zg4]
   (repeat' (first | (simp (disch := omega) only [push_cast, ↓zz, seval, hP]) | (with_reducible first | refine And.intro ?_ ?_ | (first | refine z01 ?_ ?_ | refine z00 ?_ ?_) <;> intro hc <;> (try simp only [push_cast] at hc)) | omega | with_reducible intro _))
   refine y57 (zs0 rfl (by rw [hn]; rfl) (by rw [hn]; rfl) rfl (by rw [hn]; rfl) (by rw [hn]; rfl) rfl) ?_
   have el : z87 d d.rules.length = [(1, .ptr 0 1 0 0), (3, .lst 1 ((List.range n).map fun i => z4k (toD d.rules i))), (4, .ref 2 1 0 n), (7, .nilS), (52, .ref 2 1 0 n), (53, .int .i64 n), (54, .int .i64 0)] := by
     simp only [z87, hn, Int.toNat_natCast, List.take_length, zaq]
   rw [el, hn, Int.toNat_natCast, List.take_length]
   clear el ee
   have pL : z0h ((List.range n).map fun i => z4k (toD d.rules i)) = true := z2q.2 fun x hx => by
     obtain ⟨i, _, rfl⟩ := List.mem_map.1 hx
     exact z3c .i64 _
   have lL : ((List.range n).map fun i => z4k (toD d.rules i)).length = n := by simp
   have aL : ∀ i, i < n → ((List.range n).map fun i => z4k (toD d.rules i)).getD i .any = z4k (toD d.rules i) := fun i hi => z1r hi
   have aL2 : ∀ i, i < n → ((List.range n).map fun i => z4k (toD d.rules i))[i]? = some (z4k (toD d.rules i)) := fun i hi => by simp [hi]
   generalize hLe : (List.range n).map (fun i => z4k (toD d.rules i)) = L at *
   have pI : ∀ f, z0h (famI n f) = true := fun f => z2q.2 fun x hx => by
     obtain ⟨i, _, rfl⟩ := List.mem_map.1 hx
     rfl
   have lI : ∀ f, (famI n f).length = n := fun f => by simp [famI]
   have aI : ∀ f i, i < n → (famI n f).getD i .any = .int .i64 (f i) := fun f i hi => z1r hi
   have hnn : (n : Int) ≤ 1024 := by omega
   refine z0n (z0p (fun (k : Nat) => k ≤ n) (fun k => n - k)
     (fun k => [(1, .ptr 0 1 0 0), (3, .lst 1 L), (4, .ref 1 1 0 n), (7, .ref 2 1 0 (z93 (inD d.rules) k).length), (52, .ref 1 1 0 n), (53, .int .i64 n), (54, .int .i64 k)]) (fun k => [⟨6, 1, true, [z2r d]⟩, ⟨1, 1, true, famI n (inD d.rules)⟩, ⟨1, 1, false, (z93 (inD d.rules) k).map (AV.int .i64)⟩]) (fun env _ => [z0r 1 (env 1), z0r 1 (env 4), z0r 1 (env 7)]) 0 (by simp) ?_ ?_)
   · have z0 : z93 (inD d.rules) 0 = [] := rfl
     (repeat' (first | (simp (disch := omega) only [push_cast, ↓zz, seval, pL, lL, pI, lI, z0]) | (with_reducible first | refine And.intro ?_ ?_ | (first | refine z01 ?_ ?_ | refine z00 ?_ ?_) <;> intro hc <;> (try simp only [push_cast] at hc)) | omega | with_reducible intro _))
   intro k hk
   have zl := zvd (inD d.rules) k
   rcases Nat.lt_or_ge k n with hkn | hkn
   · have aK := aI (inD d.rules) k hkn
     have zs := zqx (inD d.rules) k
     have hib := zw9 d.rules k
     generalize inD d.rules k = v at *
     refine W_T ?_
     (repeat' (first | (simp (disch := omega) only [push_cast, ↓zz, seval, pL, lL, pI, lI, aK]) | (with_reducible first | refine And.intro ?_ ?_ | (first | refine z01 ?_ ?_ | refine z00 ?_ ?_) <;> intro hc <;> (try simp only [push_cast] at hc)) | omega | with_reducible intro _))
     · rw [if_pos (by assumption)] at zs
       refine ⟨k + 1, ?_⟩
       (repeat' (first | (simp (disch := omega) only [push_cast, ↓zz, seval, zs]) | (with_reducible first | refine And.intro ?_ ?_ | (first | refine z01 ?_ ?_ | refine z00 ?_ ?_) <;> intro hc <;> (try simp only [push_cast] at hc)) | omega | with_reducible intro _))
     · rw [if_neg (by assumption)] at zs
       refine ⟨k + 1, ?_⟩
       (repeat' (first | (simp (disch := omega) only [push_cast, ↓zz, seval, zs]) | (with_reducible first | refine And.intro ?_ ?_ | (first | refine z01 ?_ ?_ | refine z00 ?_ ?_) <;> intro hc <;> (try simp only [push_cast] at hc)) | omega | with_reducible intro _))
   · have hkn2 : n = k := by omega
     subst hkn2
     refine W_T ?_
     (repeat' (first | (simp (disch := omega) only [push_cast, ↓zz, seval, pL, lL, pI, lI]) | (with_reducible first | refine And.intro ?_ ?_ | (first | refine z01 ?_ ?_ | refine z00 ?_ ?_) <;> intro hc <;> (try simp only [push_cast] at hc)) | omega | with_reducible intro _))
     have hto : ∀ s m, m < (toD d.rules s).length → 0 ≤ nth (toD d.rules s) m ∧ nth (toD d.rules s) m < n := fun s m hm => by
       have hm2 : nth (toD d.rules s) m ∈ toD d.rules s := z1o hm
       generalize nth (toD d.rules s) m = x at *
       obtain ⟨r, hr, rfl⟩ := List.mem_map.1 hm2
       have := hrul r (List.mem_filter.1 hr).1
       omega
     refine z0n (z0p (fun (s : List Int × List Int × List Int) => KInv d.rules n (s.1 ++ s.2.1) (cntE d.rules s.1)) (fun s => n - s.1.length)
       (fun s => [(1, .ptr 0 1 0 0), (3, .lst 1 L), (4, .ref 1 1 0 n), (7, .ref 2 1 s.2.2.length s.2.1.length), (10, .int .i64 s.1.length)]) (fun s => [⟨6, 1, true, [z2r d]⟩, ⟨1, 1, true, famI n (cntE d.rules s.1)⟩, ⟨1, 1, false, (s.2.2 ++ s.2.1).map (AV.int .i64)⟩]) (fun env _ => [z0r 1 (env 1), z0r 1 (env 4), z0r 1 (env 7)]) ([], z93 (inD d.rules) n, []) (zqy d.rules n) ?_ ?_)
     · have e0 : cntE d.rules [] = inD d.rules := funext fun j => zhm _ _
       (repeat' (first | (simp (disch := omega) only [push_cast, ↓zz, seval, pL, lL, pI, lI, e0]) | (with_reducible first | refine And.intro ?_ ?_ | (first | refine z01 ?_ ?_ | refine z00 ?_ ?_) <;> intro hc <;> (try simp only [push_cast] at hc)) | omega | with_reducible intro _))
     rintro ⟨P, td, junk⟩ hK
     simp only at hK
     have hlen2 := hK.len
     rw [List.length_append] at hlen2
     rcases td with _ | ⟨x, rest⟩
     · rw [List.append_nil] at hK
       have hdone := zvg (fun r hr => by have := hrul r hr; omega) hK
       refine W_T ?_
       (repeat' (first | (simp (disch := omega) only [push_cast, ↓zz, seval, pL, lL, pI, lI]) | (with_reducible first | refine And.intro ?_ ?_ | (first | refine z01 ?_ ?_ | refine z00 ?_ ?_) <;> intro hc <;> (try simp only [push_cast] at hc)) | omega | with_reducible intro _))
       all_goals exact decide_eq_decide.2 (by rw [← hdone]; omega)
     · have hx := hK.range x (by simp)
       obtain ⟨s, rfl⟩ : ∃ s : Nat, x = s := ⟨x.toNat, by omega⟩
       have hsn : s < n := by omega
       have hsP : (s : Int) ∉ P := fun hh => by
         exact (List.nodup_append.1 hK.nodup).2.2 (s : Int) hh (s : Int) (by simp) rfl
       have aS := aL s hsn
       have aS2 := aL2 s hsn
       have j0 : (junk.map (AV.int .i64) ++ AV.int .i64 (s : Int) :: rest.map (AV.int .i64)).getD junk.length .any = .int .i64 s := by simp [List.getD]
       have j1 : nth (junk ++ (s : Int) :: rest) junk.length = s := by simp [nth]
       have hjl : (junk ++ (s : Int) :: rest).length = junk.length + (rest.length + 1) := by simp
       simp only [List.length_cons] at hlen2
       refine W_T ?_
       (repeat' (first | (simp (disch := omega) only [push_cast, ↓zz, seval, pL, lL, pI, lI, aS, aS2, j0, j1, hjl, List.length_cons]) | (with_reducible first | refine And.intro ?_ ?_ | (first | refine z01 ?_ ?_ | refine z00 ?_ ?_) <;> intro hc <;> (try simp only [push_cast] at hc)) | omega | with_reducible intro _))
       have hK0 : KInv d.rules n (P ++ [(s : Int)] ++ rest) (z4b d.rules P s 0) := by
         rw [zfr, List.append_assoc]
         exact hK
       have hDb := y1w d.rules s
       refine z0n (z0p (fun (q : Nat × List Int × List Int) => q.1 ≤ (toD d.rules s).length ∧ KInv d.rules n (P ++ [(s : Int)] ++ q.2.1) (z4b d.rules P s q.1)) (fun q => (toD d.rules s).length - q.1)
         (fun q => [(1, .ptr 0 1 0 0), (3, .lst 1 L), (4, .ref 1 1 0 n), (7, .ref 2 1 q.2.2.length q.2.1.length), (10, .int .i64 P.length), (79, z4k (toD d.rules s)), (80, .int .i64 (toD d.rules s).length), (81, .int .i64 q.1)]) (fun q => [⟨6, 1, true, [z2r d]⟩, ⟨1, 1, true, famI n (z4b d.rules P s q.1)⟩, ⟨1, 1, false, (q.2.2 ++ q.2.1).map (AV.int .i64)⟩]) (fun env _ => [z0r 1 (env 1), z0r 1 (env 4), z0r 1 (env 7)]) (0, rest, junk ++ [(s : Int)]) ⟨by simp, hK0⟩ ?_ ?_)
       · have e0 := zfr d.rules P s
         (repeat' (first | (simp (disch := omega) only [push_cast, ↓zz, seval, pL, lL, pI, lI, e0, List.map_append, List.append_assoc, List.map_cons, List.map_nil, List.cons_append, List.nil_append, List.length_append, List.length_cons, List.length_nil]) | (with_reducible first | refine And.intro ?_ ?_ | (first | refine z01 ?_ ?_ | refine z00 ?_ ?_) <;> intro hc <;> (try simp only [push_cast] at hc)) | omega | with_reducible intro _))
       rintro ⟨m, td, jk⟩ ⟨m1, m2⟩
       simp only at m1 m2
       have hlen3 := m2.len
       simp only [List.length_append, List.length_cons, List.length_nil] at hlen3
       rcases Nat.lt_or_ge m (toD d.rules s).length with hm | hm
       · obtain ⟨t1, t2⟩ := hto s m hm
         obtain ⟨t, ht⟩ : ∃ t : Nat, nth (toD d.rules s) m = t := ⟨(nth (toD d.rules s) m).toNat, by omega⟩
         have htn : t < n := by omega
         have hst := zvf hsP hm ht htn m2
         have hle := zam (P := P) hm ht
         have hps := zk5 hsP hm ht
         have aT := aI (z4b d.rules P s m) t htn
         have aT2 := aI (z4b d.rules P s (m + 1)) t htn
         have hv : z4b d.rules P s (m + 1) t = z4b d.rules P s m t - 1 := by rw [hle]; simp
         have hset : (famI n (z4b d.rules P s m)).set t (.int .i64 (z4b d.rules P s m t - 1)) = famI n (z4b d.rules P s (m + 1)) := by rw [hle]; exact zc5 htn
         have hlb : z4b d.rules P s m t ≤ 4096 := by
           have c1 : cntE d.rules P t ≤ inD d.rules t := by
             rw [← zhm]
             exact y5i _ _ _
           have c2 := zw9 d.rules t
           have c3 : z4b d.rules P s m t ≤ cntE d.rules P t := by simp only [z4b]; omega
           omega
         rw [hv] at aT2
         generalize z4b d.rules P s m t = v at *
         refine W_T ?_
         have eD : List.drop jk.length (jk.map (AV.int .i64) ++ td.map (AV.int .i64)) = td.map (AV.int .i64) := by
           rw [List.drop_append_of_le_length (by simp), List.drop_eq_nil_of_le (by simp), List.nil_append]
         (repeat' (first | (simp (disch := omega) only [push_cast, ↓zz, seval, pL, lL, pI, lI, ht, aT, aT2, hset, eD]) | (with_reducible first | refine And.intro ?_ ?_ | (first | refine z01 ?_ ?_ | refine z00 ?_ ?_) <;> intro hc <;> (try simp only [push_cast] at hc)) | omega | with_reducible intro _))
         · rw [if_pos (by assumption)] at hst
           refine ⟨(m + 1, td ++ [(t : Int)], jk), ?_⟩
           (repeat' (first | (simp (disch := omega) only [push_cast, ↓zz, seval, List.map_append, List.append_assoc, List.map_cons, List.map_nil, List.length_append, List.length_cons, List.length_nil]) | (with_reducible first | refine And.intro ?_ ?_ | (first | refine z01 ?_ ?_ | refine z00 ?_ ?_) <;> intro hc <;> (try simp only [push_cast] at hc)) | omega | with_reducible intro _))
           simpa [List.append_assoc] using hst
         · rw [if_pos (by assumption)] at hst
           refine ⟨(m + 1, td ++ [(t : Int)], []), ?_⟩
           (repeat' (first | (simp (disch := omega) only [push_cast, ↓zz, seval, List.map_append, List.append_assoc, List.map_cons, List.map_nil, List.nil_append, List.length_append, List.length_cons, List.length_nil]) | (with_reducible first | refine And.intro ?_ ?_ | (first | refine z01 ?_ ?_ | refine z00 ?_ ?_) <;> intro hc <;> (try simp only [push_cast] at hc)) | omega | with_reducible intro _))
           simpa [List.append_assoc] using hst
         · rw [if_neg (by assumption)] at hst
           refine ⟨(m + 1, td, jk), ?_⟩
           (repeat' (first | (simp (disch := omega) only [push_cast, ↓zz, seval]) | (with_reducible first | refine And.intro ?_ ?_ | (first | refine z01 ?_ ?_ | refine z00 ?_ ?_) <;> intro hc <;> (try simp only [push_cast] at hc)) | omega | with_reducible intro _))
           simpa [List.append_assoc] using hst
       · have hme : m = (toD d.rules s).length := by omega
         subst hme
         have hE := zve (l := d.rules) hsP
         rw [hE] at m2
         rw [hE]
         refine W_T ?_
         (repeat' (first | (simp (disch := omega) only [push_cast, ↓zz, seval, pL, lL, pI, lI]) | (with_reducible first | refine And.intro ?_ ?_ | (first | refine z01 ?_ ?_ | refine z00 ?_ ?_) <;> intro hc <;> (try simp only [push_cast] at hc)) | omega | with_reducible intro _))
         all_goals
           refine ⟨(P ++ [(s : Int)], td, jk), ?_⟩
           (repeat' (first | (simp (disch := omega) only [push_cast, ↓zz, seval, List.length_append, List.length_cons, List.length_nil]) | (with_reducible first | refine And.intro ?_ ?_ | (first | refine z01 ?_ ?_ | refine z00 ?_ ?_) <;> intro hc <;> (try simp only [push_cast] at hc)) | omega | with_reducible intro _))
         all_goals (simpa [List.append_assoc] using m2)
abbrev arcV (e : Int × Int) : AV := .agg [.int .i64 e.1, .int .i64 e.2]
abbrev zkk (l : List (Int × Int)) : AV := .lst 2 (l.map arcV)
theorem z6h (l : List (Int × Int)) : z0h (l.map arcV) = true := z3j (fun _ => rfl) l
def outE (E : List (Int × Int)) (i : Nat) : List Int := (E.filter fun e => decide (e.1 = (i : Int))).map (·.2)
theorem zhy (E : List (Int × Int)) (i : Nat) : (outE E i).length ≤ E.length := by
 have := List.length_filter_le (fun e : Int × Int => decide (e.1 = (i : Int))) E
 simpa [outE] using this
theorem zpa {E : List (Int × Int)} {i : Nat} {t : Int} : t ∈ outE E i ↔ ((i : Int), t) ∈ E := by
 simp only [outE, List.mem_map, List.mem_filter, decide_eq_true_eq]
 constructor
 · rintro ⟨⟨a, b⟩, ⟨h1, h2⟩, rfl⟩
   simp only at h2
   subst h2
   exact h1
 · intro h
   exact ⟨_, ⟨h, rfl⟩, rfl⟩
theorem zwc {E : List (Int × Int)} {k i : Nat} (hk : k < E.length) (hi : (nth E k).1 = i) : outE (E.take (k + 1)) = fun p => if p = i then outE (E.take k) i ++ [(nth E k).2] else outE (E.take k) p := by
 funext p
 rw [take_at hk]
 simp only [outE, List.filter_append, List.map_append, List.filter_cons, List.filter_nil, hi, decide_eq_true_eq]
 by_cases e : p = i
 · subst e; simp
 · rw [if_neg (by omega), if_neg e]; simp
inductive Reach (E : List (Int × Int)) (F : List Int) : Int → Prop where
 | base {s : Int} : s ∈ F → Reach E F s
 | step {s t : Int} : Reach E F s → (s, t) ∈ E → Reach E F t
noncomputable def z3b (E : List (Int × Int)) (F : List Int) (i : Nat) : Bool := @decide (Reach E F i) (Classical.propDecidable _)
theorem z3t {E : List (Int × Int)} {F : List Int} {i : Nat} : z3b E F i = true ↔ Reach E F i := by simp [z3b]
structure InR (n : Nat) (F : List Int) (E : List (Int × Int)) : Prop where
 f : ∀ s ∈ F, 0 ≤ s ∧ s < n
 e : ∀ e ∈ E, (0 ≤ e.1 ∧ e.1 < n) ∧ 0 ≤ e.2 ∧ e.2 < n
theorem Reach.rng {n : Nat} {F : List Int} {E : List (Int × Int)} (h : InR n F E) {s : Int} (hs : Reach E F s) : 0 ≤ s ∧ s < n := by
 cases hs with
 | base h1 => exact h.f _ h1
 | step _ h1 => exact (h.e _ h1).2
structure zmp (n : Nat) (F : List Int) (E : List (Int × Int)) (on : Nat → Bool) (todo : List Int) : Prop where
 r1 : ∀ s ∈ todo, Reach E F s
 r2 : ∀ i : Nat, on i = true → Reach E F i
 base : ∀ s ∈ F, on s.toNat = true ∨ s ∈ todo
 step : ∀ i : Nat, on i = true → ∀ t, ((i : Int), t) ∈ E → on t.toNat = true ∨ t ∈ todo
def setB (on : Nat → Bool) (s : Nat) (j : Nat) : Bool := if j = s then true else on j
theorem y0o (n : Nat) (F : List Int) (E : List (Int × Int)) : zmp n F E (fun _ => false) F where
 r1 s hs := .base hs
 r2 i h := by cases h
 base s hs := .inr hs
 step i h := by cases h
theorem y5u {n s : Nat} {F : List Int} {E : List (Int × Int)} {on : Nat → Bool} {td : List Int} (h : zmp n F E on (td ++ [(s : Int)])) (hs : on s = true) : zmp n F E on td where
 r1 t ht := h.r1 t (by simp [ht])
 r2 := h.r2
 base t ht := by
   rcases h.base t ht with h1 | h1
   · exact .inl h1
   · rcases List.mem_append.1 h1 with h1 | h1
     · exact .inr h1
     · simp only [List.mem_singleton] at h1; subst h1; exact .inl hs
 step i hi t ht := by
   rcases h.step i hi t ht with h1 | h1
   · exact .inl h1
   · rcases List.mem_append.1 h1 with h1 | h1
     · exact .inr h1
     · simp only [List.mem_singleton] at h1; subst h1; exact .inl hs
theorem y5v {n s : Nat} {F : List Int} {E : List (Int × Int)} {on : Nat → Bool} {td : List Int} (h : zmp n F E on (td ++ [(s : Int)])) : zmp n F E (setB on s) (td ++ outE E s) where
 r1 t ht := by
   rcases List.mem_append.1 ht with ht | ht
   · exact h.r1 t (by simp [ht])
   · exact .step (h.r1 s (by simp)) (zpa.1 ht)
 r2 i hi := by
   unfold setB at hi
   split at hi
   · rename_i e; subst e; exact h.r1 _ (by simp)
   · exact h.r2 i hi
 base t ht := by
   rcases h.base t ht with h1 | h1
   · refine .inl ?_; unfold setB; split
     · rfl
     · exact h1
   · rcases List.mem_append.1 h1 with h1 | h1
     · exact .inr (by simp [h1])
     · simp only [List.mem_singleton] at h1; subst h1; exact .inl (by simp [setB])
 step i hi t ht := by
   by_cases e : i = s
   · subst e; exact .inr (by simp [zpa.2 ht])
   · have hi' : on i = true := by simpa [setB, e] using hi
     rcases h.step i hi' t ht with h1 | h1
     · refine .inl ?_; unfold setB; split
       · rfl
       · exact h1
     · rcases List.mem_append.1 h1 with h1 | h1
       · exact .inr (by simp [h1])
       · simp only [List.mem_singleton] at h1; subst h1; exact .inl (by simp [setB])
theorem zwd {n : Nat} {F : List Int} {E : List (Int × Int)} (hr : InR n F E) {on : Nat → Bool} (h : zmp n F E on []) (i : Nat) : on i = z3b E F i := by
 have key : ∀ s, Reach E F s → on s.toNat = true := fun s hs => by
   induction hs with
   | base h1 =>
     rcases h.base _ h1 with h2 | h2
     · exact h2
     · cases h2
   | @step s t h1 h2 ih =>
     have hs := h1.rng hr
     have e : ((s.toNat : Nat) : Int) = s := by omega
     rcases h.step s.toNat ih t (by rw [e]; exact h2) with h3 | h3
     · exact h3
     · cases h3
 have : on i = true ↔ z3b E F i = true := ⟨fun h1 => z3t.2 (h.r2 i h1), fun h1 => by simpa using key _ (z3t.1 h1)⟩
 cases h1 : on i <;> cases h2 : z3b E F i <;> simp_all
def sumU (n : Nat) (on : Nat → Bool) (deg : Nat → Nat) : Nat := ((List.range n).map fun i => if on i then 0 else deg i + 1).sum
theorem zwe {on on2 : Nat → Bool} {deg : Nat → Nat} : ∀ {n : Nat}, (∀ i, i < n → on i = on2 i) → sumU n on deg = sumU n on2 deg := fun h => by
 unfold sumU
 congr 1
 exact List.map_congr_left fun i hi => by rw [h i (by simpa using hi)]
theorem zpb {on : Nat → Bool} {deg : Nat → Nat} {s : Nat} (ho : on s = false) : ∀ {n : Nat}, s < n → sumU n (setB on s) deg + (deg s + 1) = sumU n on deg
 | n + 1, h => by
   have e : ∀ on, sumU (n + 1) on deg = sumU n on deg + (if on n then 0 else deg n + 1) := fun on => by simp [sumU, List.range_succ]
   rw [e, e]
   by_cases hs : s = n
   · subst hs
     rw [zwe (on := setB on s) (on2 := on) fun i hi => by simp [setB]; omega]
     simp [setB, ho]
   · have := zpb (deg := deg) ho (n := n) (by omega)
     have e2 : setB on s n = on n := by simp [setB]; omega
     rw [e2]; omega
theorem zwf (on : Nat → Bool) (deg : Nat → Nat) (m : Nat) (hd : ∀ i, deg i ≤ m) : ∀ n, sumU n on deg ≤ n * (m + 1)
 | 0 => by simp [sumU]
 | n + 1 => by
   have e : sumU (n + 1) on deg = sumU n on deg + (if on n then 0 else deg n + 1) := by simp [sumU, List.range_succ]
   have := zwf on deg m hd n
   have h1 := hd n
   rw [e, Nat.succ_mul]
   split <;> omega
theorem y0p {P : Program} {f m np : Nat} {xs : List AV} {y : AV} {res : List ARes} {B : AC} (hf : z0k P f xs.length = some ⟨m, np, res, B⟩) (h : T P m 0 B (entry xs) (Abs.hl []) (Ret P res fun z H => z2j 4 H z ∧ ansW (frzV 4 H z) y)) : PC P f xs y := by
 refine y6i hf 4 ?_
 rw [znv]
 exact T.mono h fun x env H hh => znu (fun z H hh => ⟨hh.1, y17 hh.2⟩) hh
theorem zmq (l : List Int) (h0 : l ≠ []) (hl : l.length ≤ 1000000000000) : z1f Try.prog 74 [z4k l] (Abs.hl []) fun y H' => y = .ref 0 2 0 l.length ∧ H' = Abs.hl [⟨1, 2, false, l.map (AV.int .i64)⟩] := by
 refine z81 (b := 0) z4m rfl ?_
 unfold z3m
 have hne : (l.map (AV.int .i64)).isEmpty = false := by
   cases l with
   | nil => exact absurd rfl h0
   | cons _ _ => rfl
 (repeat' (first | (simp (disch := omega) only [push_cast, ↓zz, seval, hne]) | (with_reducible first | refine And.intro ?_ ?_ | (first | refine z01 ?_ ?_ | refine z00 ?_ ?_) <;> intro hc <;> (try simp only [push_cast] at hc)) | omega | with_reducible intro _))
 all_goals trace_state
theorem z6i : PC Try.prog 74 [.nilS] .nilS := by
 refine z0v z4m ?_
 unfold z3m
 (repeat' (first | (simp (disch := omega) only [push_cast, ↓zz, seval]) | (with_reducible first | refine And.intro ?_ ?_ | (first | refine z01 ?_ ?_ | refine z00 ?_ ?_) <;> intro hc <;> (try simp only [push_cast] at hc)) | omega | with_reducible intro _))
abbrev spG (v : Nat) (l : List Int) : Grp := ⟨1, v, l.isEmpty, l.map (AV.int .i64)⟩
def spF (n : Nat) (V : Nat → Nat) (D : Nat → List Int) : List Grp := (List.range n).map fun i => spG (V i) (D i)
def spT (n : Nat) (V : Nat → Nat) (D : Nat → List Int) : List AV := (List.range n).map fun i => AV.ref (i + 1) (V i) 0 (D i).length
def spB (n : Nat) (on : Nat → Bool) : List AV := (List.range n).map fun i => AV.bool (on i)
def z8n (n : Nat) (F : AV) (E : List (Int × Int)) (k : Nat) : List (Nat × AV) := [(0, .int .i64 n), (1, F), (7, .ref 0 1 0 n), (15, zkk E), (16, .int .i64 E.length), (17, .int .i64 k)]
def spL (n : Nat) (E : List (Int × Int)) (k : Nat) (V : Nat → Nat) : List Grp := ⟨1, 1, true, spT n V (outE (E.take k))⟩ :: spF n V (outE (E.take k))
theorem zhz (n : Nat) (E : List (Int × Int)) (k : Nat) (V : Nat → Nat) : (spL n E k V).length = n + 1 := by simp [spL, spF]
theorem zs2 (n : Nat) (E : List (Int × Int)) (k : Nat) (V : Nat → Nat) : ∀ G ∈ spL n E k V, ltL (spL n E k V).length G.xs := fun G hG => by
 rw [zhz]
 simp only [spL, List.mem_cons] at hG
 rcases hG with rfl | hG
 · have key : ∀ (l : List Nat), (∀ i ∈ l, i < n) → ltL (n + 1) (l.map fun i => AV.ref (i + 1) (V i) 0 (outE (E.take k) i).length) := fun l => by
     induction l with
     | nil => exact fun _ => trivial
     | cons i l ih =>
       intro h
       exact ⟨by have := h i (by simp); show i + 1 < _; omega, ih fun j hj => h j (by simp [hj])⟩
   exact key _ fun i hi => by simpa using hi
 · obtain ⟨i, _, rfl⟩ := List.mem_map.1 hG
   exact z4d _ _ (z3c .i64 _)
theorem y9f {n k : Nat} {F : AV} {E : List (Int × Int)} {V : Nat → Nat} {env : Env} {l gar : List Grp} (hF : F.pure = true) (hl' : l = spL n E k V ++ gar)
   (h0 : env 0 = .int .i64 n) (h1 : env 1 = F) (h7 : env 7 = .ref 0 1 0 n) (h15 : env 15 = zkk E) (h16 : env 16 = .int .i64 E.length) (h17 : env 17 = .int .i64 k) :
   Ent 67 0 env (Abs.hl l) (z3d (z8n n F E k)) (Abs.hl (spL n E k V)) := by
 rw [hl']
 refine (z80 (z8n n F E k) (fun p hp => ?_)).trans (zh5 (by omega) (zs2 n E k V) fun i _ => ?_)
 · simp only [z8n, List.mem_cons, List.not_mem_nil, or_false] at hp
   rcases hp with rfl | rfl | rfl | rfl | rfl | rfl <;> assumption
 · rw [zhz]
   have hr : ltV (n + 1) (zkk E) := zcu _ _ (by simp [zkk, AV.pure, z6h])
   have hf : ltV (n + 1) F := zcu _ _ hF
   simp only [z3d, z8n]
   repeat' split
   all_goals first
     | exact hr
     | exact hf
     | trivial
     | (show _ < _; omega)
theorem y5w {n i : Nat} {V : Nat → Nat} {D : Nat → List Int} {x : Int} (h : i < n) : (spT n V D).set i (.ref (i + 1) (V i + 1) 0 ((D i).length + 1)) = spT n (setV V i (V i + 1)) fun p => if p = i then D i ++ [x] else D p := by
 rw [spT, z3z h, spT]
 refine List.map_congr_left fun j _ => ?_
 by_cases e : j = i
 · subst e; simp [setV]
 · simp [setV, e]
theorem y5x {n i : Nat} {V : Nat → Nat} {D : Nat → List Int} {x : Int} (h : i < n) : (spF n V D).set i ⟨1, V i + 1, false, (D i).map (AV.int .i64) ++ [.int .i64 x]⟩ = spF n (setV V i (V i + 1)) fun p => if p = i then D i ++ [x] else D p := by
 rw [spF, z3z h, spF]
 refine List.map_congr_left fun j _ => ?_
 by_cases e : j = i
 · subst e; simp [setV, spG]
 · simp [setV, e]
theorem y5y {n s : Nat} {on : Nat → Bool} (h : s < n) : (spB n on).set s (.bool true) = spB n (setB on s) := by
 rw [spB, z3z h, spB]
 refine List.map_congr_left fun p _ => ?_
 by_cases e : p = s
 · subst e; simp [setB]
 · simp [e, setB]
theorem y5z (n : Nat) : spF n (fun _ => 1) (outE []) = (List.replicate n 1).map z6z := by
 rw [List.map_replicate]
 refine List.ext_getElem (by simp [spF]) fun i h1 h2 => ?_
 simp only [spF, List.getElem_map, List.getElem_range, List.getElem_replicate]
 rfl
theorem y0q {l : List Grp} {n : Nat} (h : ∀ i, i < n → l.getD (i + 1) default = z6z 1 ∧ i + 1 < l.length) : leSL l (List.replicate n .nilS) (spT n (fun _ => 1) (outE [])) := by
 have key : ∀ idx : List Nat, (∀ i ∈ idx, i < n) → leSL l (List.replicate idx.length .nilS) (idx.map fun i => AV.ref (i + 1) 1 0 (outE [] i).length) := fun idx => by
   induction idx with
   | nil => exact fun _ => rfl
   | cons i idx ih =>
     intro hi
     obtain ⟨h1, h2⟩ := h i (hi i (by simp))
     refine ⟨?_, ih fun j hj => hi j (by simp [hj])⟩
     show 0 = 0 ∧ (outE [] i).length = 0 ∧ (l.getD (i + 1) default).ver = 1 ∧ 0 < (l.getD (i + 1) default).w ∧ (l.getD (i + 1) default).xs = [] ∧ (l.getD (i + 1) default).exact = true ∧ i + 1 < l.length
     rw [h1]
     exact ⟨rfl, rfl, rfl, by decide, rfl, rfl, h2⟩
 have := key (List.range n) fun i hi => by simpa using hi
 rwa [List.length_range] at this
theorem y0r {n : Nat} {F : AV} {E : List (Int × Int)} {env : Env} (h0 : env 0 = .int .i64 n) (h1 : env 1 = F) (h7 : env 7 = .ref 0 1 0 n) (h15 : env 15 = zkk E) (h16 : env 16 = .int .i64 E.length) (h17 : env 17 = .int .i64 0) :
   Ent 67 0 env (Abs.hl [⟨1, 1, true, List.replicate n .nilS⟩]) (z3d (z8n n F E 0)) (Abs.hl (spL n E 0 fun _ => 1)) := by
 refine (z80 (z8n n F E 0) (fun p hp => ?_)).trans
   ((zoq (List.replicate n 1) (fun w hw => by have := (List.mem_replicate.1 hw).2; omega)).trans (y1s ?_ fun i _ => zc1 _ _))
 · simp only [z8n, List.mem_cons, List.not_mem_nil, or_false] at hp
   rcases hp with rfl | rfl | rfl | rfl | rfl | rfl <;> assumption
 · rw [spL, List.take_zero, y5z]
   refine ⟨⟨rfl, rfl, id, y0q fun i hi => ?_⟩, z95 _ _⟩
   refine ⟨?_, by simp; omega⟩
   rw [List.map_replicate]
   simp [List.getD, hi]
def spKs (n : Nat) : List Nat := 0 :: (List.range n).map (· + 1)
theorem zpc {n i : Nat} (h : i < n) : i + 1 ∈ spKs n := List.mem_cons.2 (.inr (List.mem_map.2 ⟨i, List.mem_range.2 h, rfl⟩))
theorem sp_at (n : Nat) (E : List (Int × Int)) (k : Nat) (V : Nat → Nat) {i : Nat} (hi : i < n) : (Abs.hl (spL n E k V)).at_ (i + 1) = spG (V i) (outE (E.take k) i) := by
 rw [spL, z2g]
 simp only [List.getD_cons_succ]
 exact z1r hi
theorem y9g (n : Nat) (E : List (Int × Int)) (k : Nat) (V : Nat → Nat) : z2j 2 ((Abs.hl (spL n E k V)).only (spKs n)) (.ref 0 1 0 n) ∧ frzV 2 ((Abs.hl (spL n E k V)).only (spKs n)) (.ref 0 1 0 n) = zaq n (outE (E.take k)) := by
 have hat1 : ((Abs.hl (spL n E k V)).only (spKs n)).at_ 0 = ⟨1, 1, true, spT n V (outE (E.take k))⟩ := by
   show (if 0 ∈ spKs n then (Abs.hl (spL n E k V)).at_ 0 else ((Abs.hl (spL n E k V)).at_ 0).dead) = _
   rw [if_pos (by simp [spKs])]
   rfl
 have hat : ∀ i, i < n → ((Abs.hl (spL n E k V)).only (spKs n)).at_ (i + 1) = spG (V i) (outE (E.take k) i) := fun i hi => by
   show (if i + 1 ∈ spKs n then (Abs.hl (spL n E k V)).at_ (i + 1) else ((Abs.hl (spL n E k V)).at_ (i + 1)).dead) = _
   rw [if_pos (zpc hi)]
   exact sp_at n E k V hi
 have htl : (((spT n V (outE (E.take k))).drop 0).take n) = spT n V (outE (E.take k)) := by
   rw [List.drop_zero]; exact List.take_of_length_le (by simp [spT])
 constructor
 · refine ⟨by rw [hat1], by rw [hat1]; exact Nat.one_pos, by rw [hat1]; simp [spT], fun y hy => ?_⟩
   rw [hat1, htl] at hy
   obtain ⟨i, hi, rfl⟩ := List.mem_map.1 hy
   have hi' : i < n := by simpa using hi
   refine ⟨by rw [hat i hi'], by rw [hat i hi']; exact Nat.one_pos, by rw [hat i hi']; simp, fun z hz => ?_⟩
   rw [hat i hi'] at hz
   obtain ⟨u, _, rfl⟩ := List.mem_map.1 (List.mem_of_mem_drop (List.mem_of_mem_take hz))
   rfl
 · show AV.lst _ _ = _
   rw [hat1, htl, zaq, spT, List.map_map]
   congr 1
   refine List.map_congr_left fun i hi => ?_
   have hi' : i < n := by simpa using hi
   show AV.lst _ _ = _
   rw [hat i hi']
   have e : (((spG (V i) (outE (E.take k) i)).xs.drop 0).take (outE (E.take k) i).length).map (frzV 0 ((Abs.hl (spL n E k V)).only (spKs n))) = (outE (E.take k) i).map (AV.int .i64) := by
     rw [List.drop_zero, List.take_of_length_le (by simp [spG])]
     refine (List.map_congr_left fun x hx => ?_).trans (List.map_id _)
     obtain ⟨u, _, rfl⟩ := List.mem_map.1 hx
     rfl
   rw [e]
def zar (n : Nat) (F : AV) (E : List (Int × Int)) (k : Nat) : List (Nat × AV) := [(0, .int .i64 n), (1, F), (7, zaq n (outE (E.take k)))]
theorem zwg {n k : Nat} {F : AV} {E : List (Int × Int)} {V : Nat → Nat} {env : Env} (hF : F.pure = true) (h0 : env 0 = .int .i64 n) (h1 : env 1 = F) (h7 : env 7 = .ref 0 1 0 n) :
   Ent 67 0 env (Abs.hl (spL n E k V)) (z3d (zar n F E k)) (Abs.hl []) := by
 obtain ⟨f1, f2⟩ := y9g n E k V
 rw [← h7] at f1 f2
 refine (zuy 7 2 (spKs n) f1).trans ((z80 (zar n F E k) fun p hp => ?_).trans ((zki (H' := Abs.hl ([] ++ (spL n E k V).map Grp.dead)) ?_ ?_).trans (zh5 (by omega) (fun G hG => by cases hG) ?_)))
 · rw [f2]
   simp only [zar, List.mem_cons, List.not_mem_nil, or_false] at hp
   rcases hp with rfl | rfl | rfl <;> first | rfl | assumption
 · simp [z02.kill, Abs.hl]
 · intro g hg
   show _ = if g ∈ spKs n then ((Abs.hl (spL n E k V)).at_ g).dead else (Abs.hl (spL n E k V)).at_ g
   have hlen : (Abs.hl (spL n E k V)).n = n + 1 := zhz n E k V
   have hg' : g < n + 1 := by rw [← hlen]; exact hg
   rw [if_pos (by
     cases g with
     | zero => simp [spKs]
     | succ i => exact zpc (by omega)), z2g, z2g, List.nil_append]
   have hg2 : g < (spL n E k V).length := by rw [zhz]; exact hg'
   simp [List.getD, hg2]
 · intro i _
   have hd : ltV 0 (zaq n (outE (E.take k))) := trivial
   have hf : ltV 0 F := zcu _ _ hF
   simp only [z3d, zar]
   repeat' split
   all_goals first
     | exact hd
     | exact hf
     | trivial
noncomputable def z3l (n : Nat) (F : List Int) (E : List (Int × Int)) : List Bool := (List.range n).map (z3b E F)
theorem z58 (n : Nat) (F : List Int) (E : List (Int × Int)) : (z3l n F E).length = n := by simp [z3l]
def zwh : AC → AC
 | .seq _ (.seq _ (.seq _ r)) => r
 | c => c
theorem zg6 (n : Nat) (FV : AV) (hPF : FV.pure = true) (E : List (Int × Int)) (hn : n ≤ 1024) (hEl : E.length ≤ 5000) (hr : InR n [] E) {Q : Ex → Env → z02 → Prop}
   (h : T Try.prog 67 0 (zwh z3w) (z3d [(0, .int .i64 n), (1, FV), (7, zaq n (outE E))]) (Abs.hl []) Q) : T Try.prog 67 0 z3w (entry [.int .i64 n, FV, zkk E]) (Abs.hl []) Q := by
 have hP := z6h E
 unfold z3w
 refine z8v (W_T ?_)
 (repeat' (first | (simp (disch := omega) only [push_cast, ↓zz, seval]) | (with_reducible first | refine And.intro ?_ ?_ | (first | refine z01 ?_ ?_ | refine z00 ?_ ?_) <;> intro hc <;> (try simp only [push_cast] at hc)) | omega | with_reducible intro _))
 refine z8v (W_T ?_)
 (repeat' (first | (simp (disch := omega) only [push_cast, ↓zz, seval]) | (with_reducible first | refine And.intro ?_ ?_ | (first | refine z01 ?_ ?_ | refine z00 ?_ ?_) <;> intro hc <;> (try simp only [push_cast] at hc)) | omega | with_reducible intro _))
 refine z8v (W_T ?_)
 (repeat' (first | (simp (disch := omega) only [push_cast, ↓zz, seval]) | (with_reducible first | refine And.intro ?_ ?_ | (first | refine z01 ?_ ?_ | refine z00 ?_ ?_) <;> intro hc <;> (try simp only [push_cast] at hc)) | omega | with_reducible intro _))
 refine z0n (zux (fun (s : Nat × (Nat → Nat)) => s.1 ≤ E.length) (fun s => E.length - s.1) (fun s => z3d (z8n n FV E s.1)) (fun s => Abs.hl (spL n E s.1 s.2)) (0, fun _ => 1) (by simp) ?_ ?_)
 · exact y0r rfl rfl rfl rfl rfl rfl
 rintro ⟨k, V⟩ hk
 simp only at hk ⊢
 rcases Nat.lt_or_ge k E.length with hkl | hkl
 · have he := hr.e _ (z1o hkl)
   have estep := fun i h => zwc (E := E) (k := k) (i := i) hkl h
   generalize hre : nth E k = e at *
   obtain ⟨i, hi⟩ : ∃ i : Nat, e.1 = i := ⟨e.1.toNat, by omega⟩
   have hin : i < n := by omega
   have hni : ¬ n = i := by omega
   have e1 := estep i hi
   simp only [z8n, spL]
   have hFl : (spF n V (outE (E.take k))).length = n := by simp [spF]
   have hTl : (spT n V (outE (E.take k))).length = n := by simp [spT]
   have gI : ∀ G, (spF n V (outE (E.take k)) ++ [G]).getD i default = spG (V i) (outE (E.take k) i) := fun G => by
     rw [List.getD_eq_getElem?_getD, List.getElem?_append_left (by omega), ← List.getD_eq_getElem?_getD]
     exact z1r hin
   have gR : ∀ G, (spF n V (outE (E.take k)) ++ [G]).getD n default = G := fun G => by
     rw [List.getD_eq_getElem?_getD, List.getElem?_append_right (by omega)]
     simp [hFl]
   have tI : (spT n V (outE (E.take k))).getD i .any = .ref (i + 1) (V i) 0 (outE (E.take k) i).length := z1r hin
   have sR : ∀ G G', setQ (spF n V (outE (E.take k)) ++ [G]) n G' = some (spF n V (outE (E.take k)) ++ [G']) := fun G G' => by
     have := zhv (spF n V (outE (E.take k))) G G'
     rwa [hFl] at this
   have sI : ∀ G G', setQ (spF n V (outE (E.take k)) ++ [G]) i G' = some ((spF n V (outE (E.take k))).set i G' ++ [G]) := fun G G' => zhw _ _ _ (by omega)
   have gR2 : ∀ G G', ((spF n V (outE (E.take k))).set i G' ++ [G]).getD n default = G := fun G G' => by
     rw [List.getD_eq_getElem?_getD, List.getElem?_append_right (by simp [hFl])]
     simp [hFl]
   have hSB : ∀ R G, z2e 1 [i + 1] (spF n V (outE (E.take k)) ++ [R]) ((spF n V (outE (E.take k))).set i G ++ [R]) := fun R G => by
     rw [← List.set_append_left _ _ (by omega)]
     exact z94 (by simp; omega)
   generalize hF : spF n V (outE (E.take k)) = FF at *
   generalize hT : spT n V (outE (E.take k)) = TT at *
   generalize hD : outE (E.take k) i = Di at *
   have hEx : (!Di.isEmpty || (Di.map (AV.int .i64)).isEmpty) = true := by cases Di <;> rfl
   have hDl : Di.length ≤ 5000 := by rw [← hD]; have := zhy (E.take k) i; simp at this; omega
   refine W_T ?_
   (repeat' (first | (simp (disch := omega) only [push_cast, ↓zz, seval, hP, hre, hi, hFl, hTl, gI, gR, gR2, sR, sI, tI, List.cons_append, List.length_append, List.length_cons]) | (with_reducible first | refine And.intro ?_ ?_ | (first | refine z01 ?_ ?_ | refine z00 ?_ ?_) <;> intro hc <;> (try simp only [push_cast] at hc)) | omega | with_reducible intro _))
   refine z2f [i + 1] ?_
   (repeat' (first | (simp (disch := omega) only [push_cast, ↓zz, seval, xx, List.mem_cons, List.not_mem_nil, or_false, false_or, not_or, not_false_eq_true, true_or, or_true, hP, hre, hi, hFl, hTl, gI, gR, gR2, sR, sI, tI, List.cons_append, List.length_append, List.length_cons, hni, hEx]) | (with_reducible first | refine And.intro ?_ ?_ | (first | refine z01 ?_ ?_ | refine z00 ?_ ?_) <;> intro hc <;> (try simp only [push_cast] at hc)) | omega | with_reducible intro _))
   · exact hSB _ _
   refine ⟨(k + 1, setV V i (V i + 1)), y9f (gar := [⟨2, 1, true, [.agg [.int .i64 i, .int .i64 e.2]]⟩]) hPF ?_ ?_ ?_ ?_ ?_ ?_ ?_, by simp only; omega, by simp only; omega⟩
   · rw [spL, e1, ← hF, ← hT, ← hD, y5w hin, y5x hin]
     rfl
   all_goals rfl
 · obtain rfl : k = E.length := by omega
   simp only [z8n, spL]
   refine W_T ?_
   (repeat' (first | (simp (disch := omega) only [push_cast, ↓zz, seval, hP]) | (with_reducible first | refine And.intro ?_ ?_ | (first | refine z01 ?_ ?_ | refine z00 ?_ ?_) <;> intro hc <;> (try simp only [push_cast] at hc)) | omega | with_reducible intro _))
   have hsl : (⟨1, 1, true, spT n V (outE E)⟩ :: spF n V (outE E) : List Grp) = spL n E E.length V := by rw [spL, List.take_length]
   rw [hsl]
   have el : zar n FV E E.length = [(0, .int .i64 n), (1, FV), (7, zaq n (outE E))] := by
     simp only [zar, List.take_length]
   refine zqp (zwg (F := FV) (E := E) (k := E.length) (V := V) hPF rfl rfl rfl) ?_
   rw [el]
   exact h
theorem ze6 (n : Nat) (F : List Int) (E : List (Int × Int)) (hn : n ≤ 1024) (h0 : F ≠ []) (hFl : F.length ≤ 5000) (hEl : E.length ≤ 5000) (hr : InR n F E) :
   PC Try.prog 61 [.int .i64 n, z4k F, zkk E] (zb0 (z3l n F E)) := by
 have hPF : z0h (F.map (AV.int .i64)) = true := z3c .i64 _
 refine y0p z9s (zg6 n (z4k F) hPF E hn hEl ⟨by simp, hr.e⟩ (W_T ?_))
 unfold z3w
 simp only [zwh, zaq]
 have pL : z0h ((List.range n).map fun i => z4k (outE E i)) = true := z2q.2 fun x hx => by
   obtain ⟨i, _, rfl⟩ := List.mem_map.1 hx
   exact z3c .i64 _
 have lL : ((List.range n).map fun i => z4k (outE E i)).length = n := by simp
 have aL : ∀ i, i < n → ((List.range n).map fun i => z4k (outE E i)).getD i .any = z4k (outE E i) := fun i hi => z1r hi
 have aL2 : ∀ i, i < n → ((List.range n).map fun i => z4k (outE E i))[i]? = some (z4k (outE E i)) := fun i hi => by simp [hi]
 generalize hLe : (List.range n).map (fun i => z4k (outE E i)) = L at *
 have fB : List.replicate n (AV.bool false) = spB n fun _ => false := by
   refine List.ext_getElem (by simp [spB]) fun i h1 h2 => ?_
   simp [spB]
 have pB : ∀ on, z0h (spB n on) = true := fun on => z2q.2 fun x hx => by
   obtain ⟨i, _, rfl⟩ := List.mem_map.1 hx
   rfl
 have lB : ∀ on, (spB n on).length = n := fun on => by simp [spB]
 have aB : ∀ on i, i < n → (spB n on).getD i .any = .bool (on i) := fun on i hi => z1r hi
 (repeat' (first | (simp (disch := omega) only [push_cast, ↓zz, seval, pL, lL]) | (with_reducible first | refine And.intro ?_ ?_ | (first | refine z01 ?_ ?_ | refine z00 ?_ ?_) <;> intro hc <;> (try simp only [push_cast] at hc)) | omega | with_reducible intro _))
 (refine zah [] (zmq F h0 (by omega)) (by decide) (by simp) (by (simp (disch := omega) only [push_cast, ↓zz, seval])) (by (simp (disch := omega) only [push_cast, ↓zz, seval])) (by (simp (disch := omega) only [push_cast, ↓zz, seval])) (by (simp (disch := omega) only [push_cast, ↓zz, seval, List.mem_cons, List.not_mem_nil, or_false, forall_eq_or_imp, forall_eq, List.forall_mem_nil])) ?_)
 rintro y H' ⟨rfl, rfl⟩
 refine ⟨_, rfl, by simp, ?_⟩
 (repeat' (first | (simp (disch := omega) only [push_cast, ↓zz, seval, pL, lL]) | (with_reducible first | refine And.intro ?_ ?_ | (first | refine z01 ?_ ?_ | refine z00 ?_ ?_) <;> intro hc <;> (try simp only [push_cast] at hc)) | omega | with_reducible intro _))
 have hs0 := zwf (fun _ => false) (fun i => (outE E i).length) 5000 (fun i => by have := zhy E i; omega) n
 have hs1 : n * (5000 + 1) ≤ 1024 * 5001 := Nat.mul_le_mul_right _ hn
 refine z0n (z0p (fun (s : (Nat → Bool) × List Int) => zmp n F E s.1 s.2 ∧ s.2.length + sumU n s.1 (fun i => (outE E i).length) ≤ 6000000) (fun s => s.2.length + sumU n s.1 (fun i => (outE E i).length))
   (fun s => [(7, .lst 1 L), (10, .ref 0 1 0 n), (11, .ref 1 1 0 s.2.length)]) (fun s => [⟨1, 1, true, spB n s.1⟩, ⟨1, 1, false, s.2.map (AV.int .i64)⟩]) (fun env _ => [z0r 1 (env 10), z0r 1 (env 11)]) (fun _ => false, F) ⟨y0o n F E, by simp only; omega⟩ ?_ ?_)
 · (repeat' (first | (simp (disch := omega) only [push_cast, ↓zz, seval, pL, lL, fB, pB, lB]) | (with_reducible first | refine And.intro ?_ ?_ | (first | refine z01 ?_ ?_ | refine z00 ?_ ?_) <;> intro hc <;> (try simp only [push_cast] at hc)) | omega | with_reducible intro _))
 rintro ⟨on, td⟩ ⟨hI, hb⟩
 simp only at hI hb
 clear hs0 hs1
 rcases List.eq_nil_or_concat td with rfl | ⟨t, x, rfl⟩
 · have hd := zwd hr hI
   have hB : spB n on = (z3l n F E).map AV.bool := by
     simp only [spB, z3l, List.map_map]
     exact List.map_congr_left fun i _ => by simp [hd i]
   have rl := z58 n F E
   have rt : List.take n (z3l n F E) = z3l n F E := List.take_of_length_le (by rw [rl]; exact Nat.le_refl _)
   refine W_T ?_
   (repeat' (first | (simp (disch := omega) only [push_cast, ↓zz, seval, pL, lL, hB, pB, lB, rl, rt]) | (with_reducible first | refine And.intro ?_ ?_ | (first | refine z01 ?_ ?_ | refine z00 ?_ ?_) <;> intro hc <;> (try simp only [push_cast] at hc)) | omega | with_reducible intro _))
 · rw [List.concat_eq_append] at *
   have hx := (hI.r1 x (by simp)).rng hr
   obtain ⟨s, rfl⟩ : ∃ s : Nat, x = s := ⟨x.toNat, by omega⟩
   have hsn : s < n := by omega
   have aS := aL s hsn
   have aS2 := aL2 s hsn
   have aBs := aB on s hsn
   have j0 : (t.map (AV.int .i64) ++ [AV.int .i64 (s : Int)]).getD t.length .any = .int .i64 s := by simp [List.getD]
   have j1 : nth (t ++ [(s : Int)]) t.length = s := by simp [nth]
   have hll : (t ++ [(s : Int)]).length = t.length + 1 := by simp
   rw [hll] at hb ⊢
   refine z8v (W_T ?_)
   (repeat' (first | (simp (disch := omega) only [push_cast, ↓zz, seval, pL, lL]) | (with_reducible first | refine And.intro ?_ ?_ | (first | refine z01 ?_ ?_ | refine z00 ?_ ?_) <;> intro hc <;> (try simp only [push_cast] at hc)) | omega | with_reducible intro _))
   refine zso (z8v (W_T ?_))
   (repeat' (first | (simp (disch := omega) only [push_cast, ↓zz, seval, pL, lL, pB, lB, j0]) | (with_reducible first | refine And.intro ?_ ?_ | (first | refine z01 ?_ ?_ | refine z00 ?_ ?_) <;> intro hc <;> (try simp only [push_cast] at hc)) | omega | with_reducible intro _))
   refine z8v (W_T ?_)
   (repeat' (first | (simp (disch := omega) only [push_cast, ↓zz, seval, pL, lL, pB, lB]) | (with_reducible first | refine And.intro ?_ ?_ | (first | refine z01 ?_ ?_ | refine z00 ?_ ?_) <;> intro hc <;> (try simp only [push_cast] at hc)) | omega | with_reducible intro _))
   refine zqp (H' := Abs.hl [⟨1, 1, true, spB n on⟩, ⟨1, 1, false, t.map (AV.int .i64)⟩]) (zuz (g := 1) (t.map (AV.int .i64)) [.int .i64 s] (by decide) (by simp) rfl) (W_T ?_)
   have hsk := @y5u n s F E on t hI
   have htk := y5v hI
   have hsu := fun h => zpb (on := on) (deg := fun i => (outE E i).length) (s := s) h hsn
   have fs := y5y (on := on) hsn
   have hoe := zhy E s
   cases hon : on s with
   | true =>
     rw [hon] at aBs
     (repeat' (first | (simp (disch := omega) only [push_cast, ↓zz, seval, pL, lL, pB, lB, aBs]) | (with_reducible first | refine And.intro ?_ ?_ | (first | refine z01 ?_ ?_ | refine z00 ?_ ?_) <;> intro hc <;> (try simp only [push_cast] at hc)) | omega | with_reducible intro _))
     all_goals
       refine ⟨(on, t), ?_⟩
       (repeat' (first | (simp (disch := omega) only [push_cast, ↓zz, seval]) | (with_reducible first | refine And.intro ?_ ?_ | (first | refine z01 ?_ ?_ | refine z00 ?_ ?_) <;> intro hc <;> (try simp only [push_cast] at hc)) | omega | with_reducible intro _))
       exact hsk hon
   | false =>
     rw [hon] at aBs
     (repeat' (first | (simp (disch := omega) only [push_cast, ↓zz, seval, pL, lL, pB, lB, aBs, aS, aS2, fs]) | (with_reducible first | refine And.intro ?_ ?_ | (first | refine z01 ?_ ?_ | refine z00 ?_ ?_) <;> intro hc <;> (try simp only [push_cast] at hc)) | omega | with_reducible intro _))
     all_goals
       refine ⟨(setB on s, t ++ outE E s), ?_⟩
       (repeat' (first | (simp (disch := omega) only [push_cast, ↓zz, seval, List.map_append, List.length_append]) | (with_reducible first | refine And.intro ?_ ?_ | (first | refine z01 ?_ ?_ | refine z00 ?_ ?_) <;> intro hc <;> (try simp only [push_cast] at hc)) | omega | with_reducible intro _))
       all_goals (have h5 := hsu hon; omega)
theorem zkl {E : List (Int × Int)} {s : Int} : ¬ Reach E [] s := fun h => by
 induction h with
 | base h => cases h
 | step _ _ ih => exact ih
theorem zs3 (n : Nat) (E : List (Int × Int)) (hn : n ≤ 1024) (hEl : E.length ≤ 5000) (hr : InR n [] E) :
   PC Try.prog 61 [.int .i64 n, .nilS, zkk E] (zb0 (z3l n [] E)) := by
 refine y0p z9s (zg6 n .nilS rfl E hn hEl hr (W_T ?_))
 unfold z3w
 simp only [zwh, zaq]
 have pL : z0h ((List.range n).map fun i => z4k (outE E i)) = true := z2q.2 fun x hx => by
   obtain ⟨i, _, rfl⟩ := List.mem_map.1 hx
   exact z3c .i64 _
 have lL : ((List.range n).map fun i => z4k (outE E i)).length = n := by simp
 generalize hLe : (List.range n).map (fun i => z4k (outE E i)) = L at *
 have fB : List.replicate n (AV.bool false) = (z3l n [] E).map AV.bool := by
   refine List.ext_getElem (by simp [z3l]) fun i h1 h2 => ?_
   simp [z3l, z3b, zkl]
 have pB : z0h ((z3l n [] E).map AV.bool) = true := z3j (fun _ => rfl) _
 have rl := z58 n [] E
 have rt : List.take n (z3l n [] E) = z3l n [] E := List.take_of_length_le (by rw [rl]; exact Nat.le_refl _)
 (repeat' (first | (simp (disch := omega) only [push_cast, ↓zz, seval, pL, lL]) | (with_reducible first | refine And.intro ?_ ?_ | (first | refine z01 ?_ ?_ | refine z00 ?_ ?_) <;> intro hc <;> (try simp only [push_cast] at hc)) | ((with_reducible first | refine eK z6i ?_ | refine eQ z6i ?_ | refine eG z6i ?_)) | ((with_reducible first | refine cK z6i ?_ | refine cQ z6i ?_ | refine cG z6i ?_); (simp (disch := omega) only [push_cast, ↓zz, seval, pL, lL]); (fail_if_success (with_reducible change False))) | omega | with_reducible intro _))
 refine z0n (z0p (fun (_ : Unit) => True) (fun _ => 0)
   (fun s => [(7, .lst 1 L), (10, .ref 0 1 0 n), (11, .nilS)]) (fun s => [⟨1, 1, true, (z3l n [] E).map AV.bool⟩]) (fun env _ => [z0r 1 (env 10)]) () trivial ?_ ?_)
 · (repeat' (first | (simp (disch := omega) only [push_cast, ↓zz, seval, pL, lL, fB, pB]) | (with_reducible first | refine And.intro ?_ ?_ | (first | refine z01 ?_ ?_ | refine z00 ?_ ?_) <;> intro hc <;> (try simp only [push_cast] at hc)) | omega | with_reducible intro _))
 rintro ⟨⟩ _
 refine W_T ?_
 (repeat' (first | (simp (disch := omega) only [push_cast, ↓zz, seval, pL, lL, pB, rl, rt]) | (with_reducible first | refine And.intro ?_ ?_ | (first | refine z01 ?_ ?_ | refine z00 ?_ ?_) <;> intro hc <;> (try simp only [push_cast] at hc)) | omega | with_reducible intro _))
 all_goals trace_state
def z71 {α : Type} (p : α → Bool) : List α → Nat → Option Nat
 | [], _ => none
 | x :: l, i => if p x then z71 p l (i + 1) else some i
theorem zpd {α : Type} [Inhabited α] {p : α → Bool} {l : List α} {k : Nat} (h : k < l.length) : z71 p (l.drop k) k = if p (nth l k) then z71 p (l.drop (k + 1)) (k + 1) else some k := by rw [drop_at h, z71]
theorem z88 {α : Type} {p : α → Bool} : ∀ {l : List α} {i : Nat}, z71 p l i = none → ∀ x ∈ l, p x = true
 | [], _, _, _, h => by cases h
 | y :: l, i, h, x, hx => by
   rw [z71] at h
   split at h
   · rename_i hp
     rcases List.mem_cons.1 hx with rfl | hx
     · exact hp
     · exact z88 h x hx
   · cases h
def z4h (d : Desc) (f : z5m) : Bool := z5s d f.from_ && (z4g d.in_ f.guards && z5i d f.out f.guards)
open Classical in
noncomputable def z5j (d : Desc) : Int × Int :=
 if ze3 d = false then (1, 0) else
   match z71 (z6g d) d.rules 0 with
   | some i => (2, i)
   | none => match z71 (z4h d) d.finals 0 with
     | some i => (3, i)
     | none => if cycP d.rules d.states.toNat then (4, 0) else (0, 0)
def z63 (d : Desc) : Prop := (∀ r ∈ d.rules, ∀ t ∈ r.out, t.parts.length < 1000000000000) ∧ ∀ f ∈ d.finals, ∀ t ∈ f.out, t.parts.length < 1000000000000
theorem zwi {d : Desc} (h : ze3 d = true) : (1 ≤ d.states ∧ d.states ≤ 1024) ∧ d.rules.length ≤ 4096 ∧ d.finals.length ≤ 4096 ∧ 0 ≤ d.start ∧ d.start < d.states := by
 simp only [ze3, z5s, Bool.and_eq_true, decide_eq_true_eq] at h
 omega
theorem zwj {d : Desc} {r : Rule} (h : z6g d r = true) : (0 ≤ r.from_ ∧ r.from_ < d.states) ∧ 0 ≤ r.to_ ∧ r.to_ < d.states := by
 simp only [z6g, z5s, Bool.and_eq_true, decide_eq_true_eq] at h
 omega
theorem zs4 (d : Desc) (hf : z63 d) : PC Try.prog 12 [z2r d] (.tup [.int .i64 (z5j d).1, .int .i64 (z5j d).2]) := by
 have hH := zw6 d
 have hPr := z1a d.rules
 have hPf := z1b d.finals
 refine z0v zjh ?_
 unfold zb1
 cases hh : ze3 d with
 | false =>
   rw [hh] at hH
   rw [z5j, if_pos hh]
   (repeat' (first | (simp (disch := omega) only [push_cast, ↓zz, seval]) | (with_reducible first | refine And.intro ?_ ?_ | (first | refine z01 ?_ ?_ | refine z00 ?_ ?_) <;> intro hc <;> (try simp only [push_cast] at hc)) | ((with_reducible first | refine eK hH ?_ | refine eQ hH ?_ | refine eG hH ?_)) | ((with_reducible first | refine cK hH ?_ | refine cQ hH ?_ | refine cG hH ?_); (simp (disch := omega) only [push_cast, ↓zz, seval]); (fail_if_success (with_reducible change False))) | omega | with_reducible intro _))
 | true =>
 rw [hh] at hH
 obtain ⟨b1, b2, b3, b4⟩ := zwi hh
 have hW : z5j d = match z71 (z6g d) d.rules 0 with
   | some i => (2, (i : Int))
   | none => match z71 (z4h d) d.finals 0 with
     | some i => (3, (i : Int))
     | none => if (@decide (cycP d.rules d.states.toNat) (Classical.propDecidable _)) = true then (4, 0) else (0, 0) := by
   rw [z5j, if_neg (by simp [hh])]
   split
   · rfl
   · split
     · rfl
     · by_cases hc : cycP d.rules d.states.toNat
       · rw [if_pos hc, if_pos (@decide_eq_true _ (Classical.propDecidable _) hc)]
       · rw [if_neg hc, if_neg (by rw [@decide_eq_false _ (Classical.propDecidable _) hc]; simp)]
 (repeat' (first | (simp (disch := omega) only [push_cast, ↓zz, seval]) | (with_reducible first | refine And.intro ?_ ?_ | (first | refine z01 ?_ ?_ | refine z00 ?_ ?_) <;> intro hc <;> (try simp only [push_cast] at hc)) | ((with_reducible first | refine eK hH ?_ | refine eQ hH ?_ | refine eG hH ?_)) | ((with_reducible first | refine cK hH ?_ | refine cQ hH ?_ | refine cG hH ?_); (simp (disch := omega) only [push_cast, ↓zz, seval]); (fail_if_success (with_reducible change False))) | omega | with_reducible intro _))
 refine z0n (z0p (fun (k : Nat) => k ≤ d.rules.length ∧ z71 (z6g d) d.rules 0 = z71 (z6g d) (d.rules.drop k) k) (fun k => d.rules.length - k)
   (fun k => [(1, .ptr 0 1 0 0), (12, z5q d.rules), (13, .int .i64 d.rules.length), (14, .int .i64 k)]) (fun k => [⟨6, 1, true, [z2r d]⟩]) (fun env _ => [z0r 1 (env 1)]) 0 ⟨by simp, rfl⟩ ?_ ?_)
 · (repeat' (first | (simp (disch := omega) only [push_cast, ↓zz, seval, hPr, hPf]) | (with_reducible first | refine And.intro ?_ ?_ | (first | refine z01 ?_ ?_ | refine z00 ?_ ?_) <;> intro hc <;> (try simp only [push_cast] at hc)) | omega | with_reducible intro _))
 rintro k ⟨k1, k2⟩
 rcases Nat.lt_or_ge k d.rules.length with hk | hk
 · have hr := zw7 d (nth d.rules k) (hf.1 _ (z1o hk))
   rw [zpd hk] at k2
   cases hb : z6g d (nth d.rules k) with
   | false =>
     rw [hb] at hr k2
     simp only [Bool.false_eq_true, if_false] at k2
     rw [hW, k2]
     refine W_T ?_
     (repeat' (first | (simp (disch := omega) only [push_cast, ↓zz, seval, hPr, hPf]) | (with_reducible first | refine And.intro ?_ ?_ | (first | refine z01 ?_ ?_ | refine z00 ?_ ?_) <;> intro hc <;> (try simp only [push_cast] at hc)) | ((with_reducible first | refine eK hr ?_ | refine eQ hr ?_ | refine eG hr ?_)) | ((with_reducible first | refine cK hr ?_ | refine cQ hr ?_ | refine cG hr ?_); (simp (disch := omega) only [push_cast, ↓zz, seval, hPr, hPf]); (fail_if_success (with_reducible change False))) | omega | with_reducible intro _))
   | true =>
     rw [hb] at hr k2
     simp only [if_true] at k2
     refine W_T ?_
     (repeat' (first | (simp (disch := omega) only [push_cast, ↓zz, seval, hPr, hPf]) | (with_reducible first | refine And.intro ?_ ?_ | (first | refine z01 ?_ ?_ | refine z00 ?_ ?_) <;> intro hc <;> (try simp only [push_cast] at hc)) | ((with_reducible first | refine eK hr ?_ | refine eQ hr ?_ | refine eG hr ?_)) | ((with_reducible first | refine cK hr ?_ | refine cQ hr ?_ | refine cG hr ?_); (simp (disch := omega) only [push_cast, ↓zz, seval, hPr, hPf]); (fail_if_success (with_reducible change False))) | omega | with_reducible intro _))
     all_goals exact ⟨k + 1, by push_cast, ⟨by omega, k2⟩, by omega⟩
 · rw [List.drop_of_length_le hk, z71] at k2
   have hall := z88 k2
   have hC := zs1 d ⟨b1, b2, fun r hr => zwj (hall r hr)⟩
   rw [k2] at hW
   simp only at hW
   refine W_T ?_
   (repeat' (first | (simp (disch := omega) only [push_cast, ↓zz, seval, hPr, hPf]) | (with_reducible first | refine And.intro ?_ ?_ | (first | refine z01 ?_ ?_ | refine z00 ?_ ?_) <;> intro hc <;> (try simp only [push_cast] at hc)) | omega | with_reducible intro _))
   refine z0n (z0p (fun (k : Nat) => k ≤ d.finals.length ∧ z71 (z4h d) d.finals 0 = z71 (z4h d) (d.finals.drop k) k) (fun k => d.finals.length - k)
     (fun k => [(1, .ptr 0 1 0 0), (26, zd3 d.finals), (27, .int .i64 d.finals.length), (28, .int .i64 k)]) (fun k => [⟨6, 1, true, [z2r d]⟩]) (fun env _ => [z0r 1 (env 1)]) 0 ⟨by simp, rfl⟩ ?_ ?_)
   · (repeat' (first | (simp (disch := omega) only [push_cast, ↓zz, seval, hPr, hPf]) | (with_reducible first | refine And.intro ?_ ?_ | (first | refine z01 ?_ ?_ | refine z00 ?_ ?_) <;> intro hc <;> (try simp only [push_cast] at hc)) | omega | with_reducible intro _))
   rintro j ⟨j1, j2⟩
   rcases Nat.lt_or_ge j d.finals.length with hj | hj
   · generalize hfe : nth d.finals j = f at *
     have hfm : f ∈ d.finals := by rw [← hfe]; exact z1o hj
     have hfo := hf.2 f hfm
     have h1 := z86 d f.from_
     have h2 := ze2 d.in_ f.guards
     have hP := z07 f.guards
     have hT := z0z f.out
     rw [zpd hj, hfe] at j2
     cases hg : z4g d.in_ f.guards with
     | false =>
       have hb : z4h d f = false := by rw [z4h, hg]; simp
       rw [hg] at h2
       rw [hb] at j2
       simp only [Bool.false_eq_true, if_false] at j2
       rw [hW, j2]
       refine W_T ?_
       (repeat' (first | (simp (disch := omega) only [push_cast, ↓zz, seval, hPr, hPf, hfe, hP, hT]) | (with_reducible first | refine And.intro ?_ ?_ | (first | refine z01 ?_ ?_ | refine z00 ?_ ?_) <;> intro hc <;> (try simp only [push_cast] at hc)) | ((with_reducible first | refine eK h1 ?_ | refine eQ h1 ?_ | refine eG h1 ?_)) | ((with_reducible first | refine eK h2 ?_ | refine eQ h2 ?_ | refine eG h2 ?_)) | ((with_reducible first | refine cK h1 ?_ | refine cQ h1 ?_ | refine cG h1 ?_); (simp (disch := omega) only [push_cast, ↓zz, seval, hPr, hPf, hfe, hP, hT]); (fail_if_success (with_reducible change False))) | ((with_reducible first | refine cK h2 ?_ | refine cQ h2 ?_ | refine cG h2 ?_); (simp (disch := omega) only [push_cast, ↓zz, seval, hPr, hPf, hfe, hP, hT]); (fail_if_success (with_reducible change False))) | omega | with_reducible intro _))
     | true =>
       rw [hg] at h2
       obtain ⟨g1, g2⟩ := z5t hg
       have h4 := ze4 d f.out f.guards hfo (fun g hg => by have := g2 g hg; omega) (by omega)
       cases hb : z4h d f with
       | false =>
         rw [hb] at j2
         simp only [Bool.false_eq_true, if_false] at j2
         rw [hW, j2]
         rw [z4h, hg, Bool.true_and] at hb
         refine W_T ?_
         (repeat' (first | (simp (disch := omega) only [push_cast, ↓zz, seval, hPr, hPf, hfe, hP, hT]) | (with_reducible first | refine And.intro ?_ ?_ | (first | refine z01 ?_ ?_ | refine z00 ?_ ?_) <;> intro hc <;> (try simp only [push_cast] at hc)) | ((with_reducible first | refine eK h1 ?_ | refine eQ h1 ?_ | refine eG h1 ?_)) | ((with_reducible first | refine eK h2 ?_ | refine eQ h2 ?_ | refine eG h2 ?_)) | ((with_reducible first | refine eK h4 ?_ | refine eQ h4 ?_ | refine eG h4 ?_)) | ((with_reducible first | refine cK h1 ?_ | refine cQ h1 ?_ | refine cG h1 ?_); (simp (disch := omega) only [push_cast, ↓zz, seval, hPr, hPf, hfe, hP, hT]); (fail_if_success (with_reducible change False))) | ((with_reducible first | refine cK h2 ?_ | refine cQ h2 ?_ | refine cG h2 ?_); (simp (disch := omega) only [push_cast, ↓zz, seval, hPr, hPf, hfe, hP, hT]); (fail_if_success (with_reducible change False))) | ((with_reducible first | refine cK h4 ?_ | refine cQ h4 ?_ | refine cG h4 ?_); (simp (disch := omega) only [push_cast, ↓zz, seval, hPr, hPf, hfe, hP, hT]); (fail_if_success (with_reducible change False))) | omega | with_reducible intro _))
         all_goals first
           | (exfalso; simp_all; done)
           | trace_state
       | true =>
         rw [hb] at j2
         simp only [if_true] at j2
         rw [z4h, hg, Bool.true_and, Bool.and_eq_true] at hb
         rw [hb.1] at h1
         rw [hb.2] at h4
         refine W_T ?_
         (repeat' (first | (simp (disch := omega) only [push_cast, ↓zz, seval, hPr, hPf, hfe, hP, hT]) | (with_reducible first | refine And.intro ?_ ?_ | (first | refine z01 ?_ ?_ | refine z00 ?_ ?_) <;> intro hc <;> (try simp only [push_cast] at hc)) | ((with_reducible first | refine eK h1 ?_ | refine eQ h1 ?_ | refine eG h1 ?_)) | ((with_reducible first | refine eK h2 ?_ | refine eQ h2 ?_ | refine eG h2 ?_)) | ((with_reducible first | refine eK h4 ?_ | refine eQ h4 ?_ | refine eG h4 ?_)) | ((with_reducible first | refine cK h1 ?_ | refine cQ h1 ?_ | refine cG h1 ?_); (simp (disch := omega) only [push_cast, ↓zz, seval, hPr, hPf, hfe, hP, hT]); (fail_if_success (with_reducible change False))) | ((with_reducible first | refine cK h2 ?_ | refine cQ h2 ?_ | refine cG h2 ?_); (simp (disch := omega) only [push_cast, ↓zz, seval, hPr, hPf, hfe, hP, hT]); (fail_if_success (with_reducible change False))) | ((with_reducible first | refine cK h4 ?_ | refine cQ h4 ?_ | refine cG h4 ?_); (simp (disch := omega) only [push_cast, ↓zz, seval, hPr, hPf, hfe, hP, hT]); (fail_if_success (with_reducible change False))) | omega | with_reducible intro _))
         all_goals exact ⟨j + 1, by push_cast, ⟨by omega, j2⟩, by omega⟩
   · rw [List.drop_of_length_le hj, z71] at j2
     rw [j2] at hW
     simp only at hW
     generalize @decide (cycP d.rules d.states.toNat) (Classical.propDecidable _) = c at *
     refine W_T ?_
     rw [hW]
     cases c
     · (repeat' (first | (simp (disch := omega) only [push_cast, ↓zz, seval, hPr, hPf]) | (with_reducible first | refine And.intro ?_ ?_ | (first | refine z01 ?_ ?_ | refine z00 ?_ ?_) <;> intro hc <;> (try simp only [push_cast] at hc)) | ((with_reducible first | refine eK hC ?_ | refine eQ hC ?_ | refine eG hC ?_)) | ((with_reducible first | refine cK hC ?_ | refine cQ hC ?_ | refine cG hC ?_); (simp (disch := omega) only [push_cast, ↓zz, seval, hPr, hPf]); (fail_if_success (with_reducible change False))) | omega | with_reducible intro _))
     · (repeat' (first | (simp (disch := omega) only [push_cast, ↓zz, seval, hPr, hPf]) | (with_reducible first | refine And.intro ?_ ?_ | (first | refine z01 ?_ ?_ | refine z00 ?_ ?_) <;> intro hc <;> (try simp only [push_cast] at hc)) | ((with_reducible first | refine eK hC ?_ | refine eQ hC ?_ | refine eG hC ?_)) | ((with_reducible first | refine cK hC ?_ | refine cQ hC ?_ | refine cG hC ?_); (simp (disch := omega) only [push_cast, ↓zz, seval, hPr, hPf]); (fail_if_success (with_reducible change False))) | omega | with_reducible intro _))
       all_goals trace_state
noncomputable def z2s (d : Desc) : Int := if (z5j d).1 = 0 then 0 else 2
theorem z89 (d : Desc) (hf : z63 d) : PC Try.prog 14 [z2r d] (.int .i64 (z2s d)) := by
 have hW := zs4 d hf
 refine z0v zji ?_
 unfold zb2 z2s
 generalize z5j d = w at *
 by_cases h : w.1 = 0
 · rw [if_pos h]
   (repeat' (first | (simp (disch := omega) only [push_cast, ↓zz, seval, h]) | (with_reducible first | refine And.intro ?_ ?_ | (first | refine z01 ?_ ?_ | refine z00 ?_ ?_) <;> intro hc <;> (try simp only [push_cast] at hc)) | ((with_reducible first | refine eK hW ?_ | refine eQ hW ?_ | refine eG hW ?_)) | ((with_reducible first | refine cK hW ?_ | refine cQ hW ?_ | refine cG hW ?_); (simp (disch := omega) only [push_cast, ↓zz, seval, h]); (fail_if_success (with_reducible change False))) | omega | with_reducible intro _))
 · rw [if_neg h]
   (repeat' (first | (simp (disch := omega) only [push_cast, ↓zz, seval, h]) | (with_reducible first | refine And.intro ?_ ?_ | (first | refine z01 ?_ ?_ | refine z00 ?_ ?_) <;> intro hc <;> (try simp only [push_cast] at hc)) | ((with_reducible first | refine eK hW ?_ | refine eQ hW ?_ | refine eG hW ?_)) | ((with_reducible first | refine cK hW ?_ | refine cQ hW ?_ | refine cG hW ?_); (simp (disch := omega) only [push_cast, ↓zz, seval, h]); (fail_if_success (with_reducible change False))) | omega | with_reducible intro _))
   all_goals trace_state
theorem fold_at {α β : Type} [Inhabited α] {f : β → α → β} {l : List α} {k : Nat} {s : β} (h : k < l.length) : (l.drop k).foldl f s = (l.drop (k + 1)).foldl f (f s (nth l k)) := by rw [drop_at h, List.foldl_cons]
def freeB (d : Desc) : Bool := d.rules.all fun r => !z4q r
def widF (n : Int) (r : Rule) : Int := max n r.guards.length
def y9h (d : Desc) : Int := d.rules.foldl widF 0
def aheF (n : Int) (r : Rule) : Int := max n (r.guards.length - max r.eat 0)
def y9i (d : Desc) : Int := d.rules.foldl aheF 0
def lonF (n : Int) (r : Rule) : Int := max n r.out.length
def lonG (n : Int) (f : z5m) : Int := max n f.out.length
def longV (d : Desc) : Int := d.finals.foldl lonG (d.rules.foldl lonF 0)
theorem zs5 (a b : Int) : PC Try.prog 15 [.int .i64 a, .int .i64 b] (z2r ⟨a, b, 1, 0, [], []⟩) := by
 refine z0v zjj ?_
 unfold zb3
 (repeat' (first | (simp (disch := omega) only [push_cast, ↓zz, seval]) | (with_reducible first | refine And.intro ?_ ?_ | (first | refine z01 ?_ ?_ | refine z00 ?_ ?_) <;> intro hc <;> (try simp only [push_cast] at hc)) | omega | with_reducible intro _))
 all_goals trace_state
theorem ze7 (l : List Span) (hl : l.length ≤ 1000000000000) : PC Try.prog 64 [z06 l] (z06 l) := by
 by_cases h0 : l = []
 · subst h0
   refine znx ?_ ?_
   · refine z0v z2a ?_
     unfold z1i
     (repeat' (first | (simp (disch := omega) only [push_cast, ↓zz, seval]) | (with_reducible first | refine And.intro ?_ ?_ | (first | refine z01 ?_ ?_ | refine z00 ?_ ?_) <;> intro hc <;> (try simp only [push_cast] at hc)) | omega | with_reducible intro _))
   · refine z0v z2a ?_
     unfold z1i
     (repeat' (first | (simp (disch := omega) only [push_cast, ↓zz, seval]) | (with_reducible first | refine And.intro ?_ ?_ | (first | refine z01 ?_ ?_ | refine z00 ?_ ?_) <;> intro hc <;> (try simp only [push_cast] at hc)) | omega | with_reducible intro _))
 refine z0v z2a ?_
 unfold z1i
 (repeat' (first | (simp (disch := omega) only [push_cast, ↓zz, seval]) | (with_reducible first | refine And.intro ?_ ?_ | (first | refine z01 ?_ ?_ | refine z00 ?_ ?_) <;> intro hc <;> (try simp only [push_cast] at hc)) | omega | with_reducible intro _))
 all_goals trace_state
theorem mem_map {α : Type} {f : α → Span} {l : List α} {v : Int} : memL (l.map f) v ↔ ∃ a ∈ l, (f a).lo ≤ v ∧ v ≤ (f a).hi := by
 simp only [memL, List.mem_map]
 exact ⟨fun ⟨_, ⟨a, h, rfl⟩, h2⟩ => ⟨a, h, h2⟩, fun ⟨a, h, h2⟩ => ⟨_, ⟨a, h, rfl⟩, h2⟩⟩
def Full (l : List Span) : Prop := ∀ s ∈ l, s.lo ≤ s.hi
end Go.Proofs.Yticodgjinajkpaa
namespace Go.Proofs.Yticodgjinajkpaa
open Abs
def zs6 (s x : Int) : Bool := decide ((s = 1 ∧ 0 ≤ x ∧ x < 256) ∨ (s = 2 ∧ 0 ≤ x ∧ x < 1114112 ∧ (x < 55296 ∨ 57344 ≤ x)))
end Go.Proofs.Yticodgjinajkpaa
namespace Go.Proofs.Yticodgjinajkpaa
open Abs
theorem zi0 {o v : Int} : memL (domL o) v ↔ zs6 o v = true := by
 unfold domL
 simp only [zs6, decide_eq_true_eq]
 split
 · rw [z0q]; simp only [z2c, or_false]; omega
 · split
   · rw [z0q, z0q]; simp only [z2c, or_false]; omega
   · simp only [z2c, false_iff]; omega
theorem y0s {o v : Int} (h : zs6 o v = true) : 0 ≤ v ∧ v ≤ 1114111 := by
 simp only [zs6, decide_eq_true_eq] at h; omega
theorem zwk {l d : List Span} (hl : ∀ v, memL l v → -1073741824 ≤ v ∧ v ≤ 1073741824) (hp : Full l) : z7j l d = [] ↔ ∀ v, memL l v → memL d v := by
 obtain ⟨m1, m2⟩ := zr1 l d
 constructor
 · intro h v hv
   rw [h] at m2
   exact Classical.byContradiction fun hn => z2c v ((m2 v).2 ⟨hv, hl v hv, hn⟩)
 · intro h
   cases hm : z7j l d with
   | nil => rfl
   | cons s r =>
     rw [hm] at m1 m2
     obtain ⟨a, _, c⟩ := (m2 s.lo).1 (z0q.2 (.inl ⟨Int.le_refl _, m1.1 s (by simp)⟩))
     exact absurd (h _ a) c
theorem zmr {t : Term} {i o n : Int} (h : zbq t i o n = true) : z4e t = true ∧ prtB t n = true := by
 simp only [zbq, z5g, Bool.and_eq_true] at h
 obtain ⟨⟨⟨⟨_, hn⟩, hr⟩, _⟩, _⟩ := h
 refine ⟨hn, ?_⟩
 rw [prtB, List.all_eq_true]
 intro p hp
 have := List.all_eq_true.1 hr p hp
 simp only [Bool.and_eq_true] at this
 exact this.1
theorem z59 {d : Desc} (h : z2s d = 0) : ze3 d = true ∧ (∀ r ∈ d.rules, z6g d r = true) ∧ ∀ f ∈ d.finals, z4h d f = true := by
 have h0 : (z5j d).1 = 0 := by
   unfold z2s at h
   split at h
   · assumption
   · omega
 unfold z5j at h0
 split at h0
 · simp at h0
 · rename_i hh
   refine ⟨by simpa using hh, ?_⟩
   split at h0
   · simp at h0
   · rename_i hr
     split at h0
     · simp at h0
     · rename_i hf
       exact ⟨z88 hr, z88 hf⟩
theorem z5u {d : Desc} {out : List Term} {gs : List (List Span)} (h : z5i d out gs = true) : out.length ≤ 64 ∧ ∀ t ∈ out, t.parts.length ≤ 4 := by
 simp only [z5i, Bool.and_eq_true, decide_eq_true_eq] at h
 refine ⟨by omega, fun t ht => ?_⟩
 have := List.all_eq_true.1 h.2 t ht
 simp only [zry, Bool.and_eq_true] at this
 have h2 := (zmr this.1).1
 simp only [z4e, Bool.and_eq_true, decide_eq_true_eq] at h2
 exact h2.2.2
end Go.Proofs.Yticodgjinajkpaa
