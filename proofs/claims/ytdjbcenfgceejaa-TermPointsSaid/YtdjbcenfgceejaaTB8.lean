/-
  The inner values of all windows of guards, of terms of four parts.
  All inner values, the values, and whether a term fits: term.inner, term.Image, term.Fits.
  A term's values of all windows of guards, as they are told.
  The document's answer for layer 4: how many windows there are, a window by its number, all values.
  The document's answer for layer 4: all values of all windows, and whether a term fits.
  The document's values of all windows are the program's.
  The statements TermPres, TermEquals, TermFar, as contracts.
-/
import Derived.Test.YtdjbcenfgceejaaTB7
import Derived.Test.YtdjbcenfgceejaaTB5
set_option linter.unusedSimpArgs false
set_option linter.unusedVariables false
namespace Go.Proofs.Ytdjbcenfgceejaa
open Abs
theorem values_4_0 (bs dr tk up sm : Int) (p0 p1 p2 p3 : Part) (sets : List (List Span)) (hs : smallB sm = true) (hS : SetsOk [p0, p1, p2, p3] sets) (e1 : p1.at_ = p0.at_) (e2 : p2.at_ = p0.at_) (e3 : p3.at_ = p0.at_) :
    PC Try.prog 83 [termV ⟨bs, dr, tk, up, sm, [p0, p1, p2, p3]⟩, guardsV sets] (.tup [spansV (valsL ⟨bs, dr, tk, up, sm, [p0, p1, p2, p3]⟩ sets), .bool (inSym (valsL ⟨bs, dr, tk, up, sm, [p0, p1, p2, p3]⟩ sets))]) := by
  have hg := pure_guards sets
  have b0 := right_at (hS.parts p0 (by simp))
  have b1 := right_at (hS.parts p1 (by simp))
  have b2 := right_at (hS.parts p2 (by simp))
  have b3 := right_at (hS.parts p3 (by simp))
  have A0 := acc_one hs
  obtain ⟨T1, P1, A1⟩ := values_step (a := p0.at_) hS A0 (by omega) (by simp)
  have l1 : atL [p0, p1, p2, p3] p0.at_ = [p0, p1, p2, p3] := by simp [atL, e1, e2, e3]
  rw [l1] at T1 P1
  have hv : valsL ⟨bs, dr, tk, up, sm, [p0, p1, p2, p3]⟩ sets = valsF [p0, p1, p2, p3] sets ([⟨sm, sm⟩]) p0.at_ := by simp [valsL, placesL, placesF, e1, e2, e3]
  rw [hv]
  generalize ho1 : valsF [p0, p1, p2, p3] sets ([⟨sm, sm⟩]) p0.at_ = o1 at *
  generalize ht1 : togL [p0, p1, p2, p3] (nth sets p0.at_.toNat) = t1 at *
  have hF := span_First o1 (by have := A1.2; omega)
  have hL := span_Last o1 (by have := A1.2; omega)
  clear hS hv ho1 ht1 l1
  refine pc_w' c_term_values ?_
  unfold B_term_values
  (repeat' (first | (simp (disch := omega) only [push_cast, ↓zz, seval]) | (with_reducible refine And.intro ?_ ?_) | (with_reducible refine condW_split ?_ ?_ <;> intro hc <;> (try simp only [push_cast] at hc)) | (with_reducible refine guardW_split ?_ ?_ <;> intro hc <;> (try simp only [push_cast] at hc)) | omega | (with_reducible intro _)))
  refine LoopK_rounds 6 ?_
  (repeat' (first | (simp (disch := omega) only [push_cast, ↓zz, seval, xx, List.mem_cons, List.not_mem_nil, or_false, false_or, not_or, not_false_eq_true, true_or, or_true, findM, setM, e1, e2, e3]) | (with_reducible refine And.intro ?_ ?_) | (with_reducible refine condW_split ?_ ?_ <;> intro hc <;> (try simp only [push_cast] at hc)) | (with_reducible refine guardW_split ?_ ?_ <;> intro hc <;> (try simp only [push_cast] at hc)) | ((with_reducible refine Rounds_next ?_)) | ((with_reducible refine LoopK_X [1, 5] ?_)) | omega | (with_reducible intro _)))
  refine LoopK_head 6 (fun env => [srcOf 1 (env 6)]) [(1, guardsV sets), (6, .map 0 1), (10, spansV [⟨sm, sm⟩]), (53, .lst 1 [.int .i64 p0.at_]), (54, .int .i64 1), (55, .int .i64 0)] [⟨0, 1, true, [.int .i64 p0.at_, partsV [p0, p1, p2, p3]]⟩] ?_ ?_
  · (repeat' (first | (simp (disch := omega) only [push_cast, ↓zz, seval, e1, e2, e3]) | (with_reducible refine And.intro ?_ ?_) | (with_reducible refine condW_split ?_ ?_ <;> intro hc <;> (try simp only [push_cast] at hc)) | (with_reducible refine guardW_split ?_ ?_ <;> intro hc <;> (try simp only [push_cast] at hc)) | omega | (with_reducible intro _)))
    all_goals (simp only [partV, e1, e2, e3]; done)
  (repeat' (first | (simp (disch := omega) only [push_cast, ↓zz, seval, findM, inSym, hg, e1, e2, e3]) | (with_reducible refine And.intro ?_ ?_) | (with_reducible refine condW_split ?_ ?_ <;> intro hc <;> (try simp only [push_cast] at hc)) | (with_reducible refine guardW_split ?_ ?_ <;> intro hc <;> (try simp only [push_cast] at hc)) | ((with_reducible refine Rounds_next ?_)) | ((with_reducible first | refine eQ T1 ?_ | refine eQ P1 ?_)) | ((with_reducible first | refine eK hF ?_ | refine eK hL ?_)) | omega | (with_reducible intro _)))
  all_goals ((try simp only [*, decide_true, decide_false, Bool.true_and, Bool.false_and]); (repeat' (first | (simp (disch := omega) only [push_cast, ↓zz, seval, an_tup]) | omega | (with_reducible refine And.intro ?_ ?_))))
theorem values_4_1 (bs dr tk up sm : Int) (p0 p1 p2 p3 : Part) (sets : List (List Span)) (hs : smallB sm = true) (hS : SetsOk [p0, p1, p2, p3] sets) (e1 : p1.at_ = p0.at_) (e2 : p2.at_ = p0.at_) (n03 : ¬ p0.at_ = p3.at_) :
    PC Try.prog 83 [termV ⟨bs, dr, tk, up, sm, [p0, p1, p2, p3]⟩, guardsV sets] (.tup [spansV (valsL ⟨bs, dr, tk, up, sm, [p0, p1, p2, p3]⟩ sets), .bool (inSym (valsL ⟨bs, dr, tk, up, sm, [p0, p1, p2, p3]⟩ sets))]) := by
  have hg := pure_guards sets
  have b0 := right_at (hS.parts p0 (by simp))
  have b1 := right_at (hS.parts p1 (by simp))
  have b2 := right_at (hS.parts p2 (by simp))
  have b3 := right_at (hS.parts p3 (by simp))
  have A0 := acc_one hs
  obtain ⟨T1, P1, A1⟩ := values_step (a := p0.at_) hS A0 (by omega) (by simp)
  have l1 : atL [p0, p1, p2, p3] p0.at_ = [p0, p1, p2] := by simp [atL, e1, e2, n03, Ne.symm (show p0.at_ ≠ p3.at_ from n03)]
  rw [l1] at T1 P1
  obtain ⟨T2, P2, A2⟩ := values_step (a := p3.at_) hS A1 (by omega) (by simp)
  have l2 : atL [p0, p1, p2, p3] p3.at_ = [p3] := by simp [atL, e1, e2, n03, Ne.symm (show p0.at_ ≠ p3.at_ from n03)]
  rw [l2] at T2 P2
  have hv : valsL ⟨bs, dr, tk, up, sm, [p0, p1, p2, p3]⟩ sets = valsF [p0, p1, p2, p3] sets (valsF [p0, p1, p2, p3] sets ([⟨sm, sm⟩]) p0.at_) p3.at_ := by simp [valsL, placesL, placesF, e1, e2, n03, Ne.symm (show p0.at_ ≠ p3.at_ from n03)]
  rw [hv]
  generalize ho1 : valsF [p0, p1, p2, p3] sets ([⟨sm, sm⟩]) p0.at_ = o1 at *
  generalize ht1 : togL [p0, p1, p2] (nth sets p0.at_.toNat) = t1 at *
  generalize ho2 : valsF [p0, p1, p2, p3] sets (o1) p3.at_ = o2 at *
  generalize ht2 : togL [p3] (nth sets p3.at_.toNat) = t2 at *
  have hF := span_First o2 (by have := A2.2; omega)
  have hL := span_Last o2 (by have := A2.2; omega)
  clear hS hv ho1 ht1 l1 ho2 ht2 l2
  refine pc_w' c_term_values ?_
  unfold B_term_values
  (repeat' (first | (simp (disch := omega) only [push_cast, ↓zz, seval]) | (with_reducible refine And.intro ?_ ?_) | (with_reducible refine condW_split ?_ ?_ <;> intro hc <;> (try simp only [push_cast] at hc)) | (with_reducible refine guardW_split ?_ ?_ <;> intro hc <;> (try simp only [push_cast] at hc)) | omega | (with_reducible intro _)))
  refine LoopK_rounds 6 ?_
  (repeat' (first | (simp (disch := omega) only [push_cast, ↓zz, seval, xx, List.mem_cons, List.not_mem_nil, or_false, false_or, not_or, not_false_eq_true, true_or, or_true, findM, setM, e1, e2, n03]) | (with_reducible refine And.intro ?_ ?_) | (with_reducible refine condW_split ?_ ?_ <;> intro hc <;> (try simp only [push_cast] at hc)) | (with_reducible refine guardW_split ?_ ?_ <;> intro hc <;> (try simp only [push_cast] at hc)) | ((with_reducible refine Rounds_next ?_)) | ((with_reducible refine LoopK_X [1, 5] ?_)) | omega | (with_reducible intro _)))
  refine LoopK_head 6 (fun env => [srcOf 1 (env 6)]) [(1, guardsV sets), (6, .map 0 1), (10, spansV [⟨sm, sm⟩]), (53, .lst 1 [.int .i64 p0.at_, .int .i64 p3.at_]), (54, .int .i64 2), (55, .int .i64 0)] [⟨0, 1, true, [.int .i64 p0.at_, partsV [p0, p1, p2], .int .i64 p3.at_, partsV [p3]]⟩] ?_ ?_
  · (repeat' (first | (simp (disch := omega) only [push_cast, ↓zz, seval, e1, e2, n03]) | (with_reducible refine And.intro ?_ ?_) | (with_reducible refine condW_split ?_ ?_ <;> intro hc <;> (try simp only [push_cast] at hc)) | (with_reducible refine guardW_split ?_ ?_ <;> intro hc <;> (try simp only [push_cast] at hc)) | omega | (with_reducible intro _)))
    all_goals (simp only [partV, e1, e2, n03]; done)
  (repeat' (first | (simp (disch := omega) only [push_cast, ↓zz, seval, findM, inSym, hg, e1, e2, n03]) | (with_reducible refine And.intro ?_ ?_) | (with_reducible refine condW_split ?_ ?_ <;> intro hc <;> (try simp only [push_cast] at hc)) | (with_reducible refine guardW_split ?_ ?_ <;> intro hc <;> (try simp only [push_cast] at hc)) | ((with_reducible refine Rounds_next ?_)) | ((with_reducible first | refine eQ T1 ?_ | refine eQ P1 ?_)) | ((with_reducible first | refine eQ T2 ?_ | refine eQ P2 ?_)) | ((with_reducible first | refine eK hF ?_ | refine eK hL ?_)) | omega | (with_reducible intro _)))
  all_goals ((try simp only [*, decide_true, decide_false, Bool.true_and, Bool.false_and]); (repeat' (first | (simp (disch := omega) only [push_cast, ↓zz, seval, an_tup]) | omega | (with_reducible refine And.intro ?_ ?_))))
theorem values_4_2 (bs dr tk up sm : Int) (p0 p1 p2 p3 : Part) (sets : List (List Span)) (hs : smallB sm = true) (hS : SetsOk [p0, p1, p2, p3] sets) (e1 : p1.at_ = p0.at_) (e3 : p3.at_ = p0.at_) (n02 : ¬ p0.at_ = p2.at_) :
    PC Try.prog 83 [termV ⟨bs, dr, tk, up, sm, [p0, p1, p2, p3]⟩, guardsV sets] (.tup [spansV (valsL ⟨bs, dr, tk, up, sm, [p0, p1, p2, p3]⟩ sets), .bool (inSym (valsL ⟨bs, dr, tk, up, sm, [p0, p1, p2, p3]⟩ sets))]) := by
  have hg := pure_guards sets
  have b0 := right_at (hS.parts p0 (by simp))
  have b1 := right_at (hS.parts p1 (by simp))
  have b2 := right_at (hS.parts p2 (by simp))
  have b3 := right_at (hS.parts p3 (by simp))
  have A0 := acc_one hs
  obtain ⟨T1, P1, A1⟩ := values_step (a := p0.at_) hS A0 (by omega) (by simp)
  have l1 : atL [p0, p1, p2, p3] p0.at_ = [p0, p1, p3] := by simp [atL, e1, e3, n02, Ne.symm (show p0.at_ ≠ p2.at_ from n02)]
  rw [l1] at T1 P1
  obtain ⟨T2, P2, A2⟩ := values_step (a := p2.at_) hS A1 (by omega) (by simp)
  have l2 : atL [p0, p1, p2, p3] p2.at_ = [p2] := by simp [atL, e1, e3, n02, Ne.symm (show p0.at_ ≠ p2.at_ from n02)]
  rw [l2] at T2 P2
  have hv : valsL ⟨bs, dr, tk, up, sm, [p0, p1, p2, p3]⟩ sets = valsF [p0, p1, p2, p3] sets (valsF [p0, p1, p2, p3] sets ([⟨sm, sm⟩]) p0.at_) p2.at_ := by simp [valsL, placesL, placesF, e1, e3, n02, Ne.symm (show p0.at_ ≠ p2.at_ from n02)]
  rw [hv]
  generalize ho1 : valsF [p0, p1, p2, p3] sets ([⟨sm, sm⟩]) p0.at_ = o1 at *
  generalize ht1 : togL [p0, p1, p3] (nth sets p0.at_.toNat) = t1 at *
  generalize ho2 : valsF [p0, p1, p2, p3] sets (o1) p2.at_ = o2 at *
  generalize ht2 : togL [p2] (nth sets p2.at_.toNat) = t2 at *
  have hF := span_First o2 (by have := A2.2; omega)
  have hL := span_Last o2 (by have := A2.2; omega)
  clear hS hv ho1 ht1 l1 ho2 ht2 l2
  refine pc_w' c_term_values ?_
  unfold B_term_values
  (repeat' (first | (simp (disch := omega) only [push_cast, ↓zz, seval]) | (with_reducible refine And.intro ?_ ?_) | (with_reducible refine condW_split ?_ ?_ <;> intro hc <;> (try simp only [push_cast] at hc)) | (with_reducible refine guardW_split ?_ ?_ <;> intro hc <;> (try simp only [push_cast] at hc)) | omega | (with_reducible intro _)))
  refine LoopK_rounds 6 ?_
  (repeat' (first | (simp (disch := omega) only [push_cast, ↓zz, seval, xx, List.mem_cons, List.not_mem_nil, or_false, false_or, not_or, not_false_eq_true, true_or, or_true, findM, setM, e1, e3, n02]) | (with_reducible refine And.intro ?_ ?_) | (with_reducible refine condW_split ?_ ?_ <;> intro hc <;> (try simp only [push_cast] at hc)) | (with_reducible refine guardW_split ?_ ?_ <;> intro hc <;> (try simp only [push_cast] at hc)) | ((with_reducible refine Rounds_next ?_)) | ((with_reducible refine LoopK_X [1, 5] ?_)) | omega | (with_reducible intro _)))
  refine LoopK_head 6 (fun env => [srcOf 1 (env 6)]) [(1, guardsV sets), (6, .map 0 1), (10, spansV [⟨sm, sm⟩]), (53, .lst 1 [.int .i64 p0.at_, .int .i64 p2.at_]), (54, .int .i64 2), (55, .int .i64 0)] [⟨0, 1, true, [.int .i64 p0.at_, partsV [p0, p1, p3], .int .i64 p2.at_, partsV [p2]]⟩] ?_ ?_
  · (repeat' (first | (simp (disch := omega) only [push_cast, ↓zz, seval, e1, e3, n02]) | (with_reducible refine And.intro ?_ ?_) | (with_reducible refine condW_split ?_ ?_ <;> intro hc <;> (try simp only [push_cast] at hc)) | (with_reducible refine guardW_split ?_ ?_ <;> intro hc <;> (try simp only [push_cast] at hc)) | omega | (with_reducible intro _)))
    all_goals (simp only [partV, e1, e3, n02]; done)
  (repeat' (first | (simp (disch := omega) only [push_cast, ↓zz, seval, findM, inSym, hg, e1, e3, n02]) | (with_reducible refine And.intro ?_ ?_) | (with_reducible refine condW_split ?_ ?_ <;> intro hc <;> (try simp only [push_cast] at hc)) | (with_reducible refine guardW_split ?_ ?_ <;> intro hc <;> (try simp only [push_cast] at hc)) | ((with_reducible refine Rounds_next ?_)) | ((with_reducible first | refine eQ T1 ?_ | refine eQ P1 ?_)) | ((with_reducible first | refine eQ T2 ?_ | refine eQ P2 ?_)) | ((with_reducible first | refine eK hF ?_ | refine eK hL ?_)) | omega | (with_reducible intro _)))
  all_goals ((try simp only [*, decide_true, decide_false, Bool.true_and, Bool.false_and]); (repeat' (first | (simp (disch := omega) only [push_cast, ↓zz, seval, an_tup]) | omega | (with_reducible refine And.intro ?_ ?_))))
theorem values_4_3 (bs dr tk up sm : Int) (p0 p1 p2 p3 : Part) (sets : List (List Span)) (hs : smallB sm = true) (hS : SetsOk [p0, p1, p2, p3] sets) (e1 : p1.at_ = p0.at_) (e3 : p3.at_ = p2.at_) (n02 : ¬ p0.at_ = p2.at_) :
    PC Try.prog 83 [termV ⟨bs, dr, tk, up, sm, [p0, p1, p2, p3]⟩, guardsV sets] (.tup [spansV (valsL ⟨bs, dr, tk, up, sm, [p0, p1, p2, p3]⟩ sets), .bool (inSym (valsL ⟨bs, dr, tk, up, sm, [p0, p1, p2, p3]⟩ sets))]) := by
  have hg := pure_guards sets
  have b0 := right_at (hS.parts p0 (by simp))
  have b1 := right_at (hS.parts p1 (by simp))
  have b2 := right_at (hS.parts p2 (by simp))
  have b3 := right_at (hS.parts p3 (by simp))
  have A0 := acc_one hs
  obtain ⟨T1, P1, A1⟩ := values_step (a := p0.at_) hS A0 (by omega) (by simp)
  have l1 : atL [p0, p1, p2, p3] p0.at_ = [p0, p1] := by simp [atL, e1, e3, n02, Ne.symm (show p0.at_ ≠ p2.at_ from n02)]
  rw [l1] at T1 P1
  obtain ⟨T2, P2, A2⟩ := values_step (a := p2.at_) hS A1 (by omega) (by simp)
  have l2 : atL [p0, p1, p2, p3] p2.at_ = [p2, p3] := by simp [atL, e1, e3, n02, Ne.symm (show p0.at_ ≠ p2.at_ from n02)]
  rw [l2] at T2 P2
  have hv : valsL ⟨bs, dr, tk, up, sm, [p0, p1, p2, p3]⟩ sets = valsF [p0, p1, p2, p3] sets (valsF [p0, p1, p2, p3] sets ([⟨sm, sm⟩]) p0.at_) p2.at_ := by simp [valsL, placesL, placesF, e1, e3, n02, Ne.symm (show p0.at_ ≠ p2.at_ from n02)]
  rw [hv]
  generalize ho1 : valsF [p0, p1, p2, p3] sets ([⟨sm, sm⟩]) p0.at_ = o1 at *
  generalize ht1 : togL [p0, p1] (nth sets p0.at_.toNat) = t1 at *
  generalize ho2 : valsF [p0, p1, p2, p3] sets (o1) p2.at_ = o2 at *
  generalize ht2 : togL [p2, p3] (nth sets p2.at_.toNat) = t2 at *
  have hF := span_First o2 (by have := A2.2; omega)
  have hL := span_Last o2 (by have := A2.2; omega)
  clear hS hv ho1 ht1 l1 ho2 ht2 l2
  refine pc_w' c_term_values ?_
  unfold B_term_values
  (repeat' (first | (simp (disch := omega) only [push_cast, ↓zz, seval]) | (with_reducible refine And.intro ?_ ?_) | (with_reducible refine condW_split ?_ ?_ <;> intro hc <;> (try simp only [push_cast] at hc)) | (with_reducible refine guardW_split ?_ ?_ <;> intro hc <;> (try simp only [push_cast] at hc)) | omega | (with_reducible intro _)))
  refine LoopK_rounds 6 ?_
  (repeat' (first | (simp (disch := omega) only [push_cast, ↓zz, seval, xx, List.mem_cons, List.not_mem_nil, or_false, false_or, not_or, not_false_eq_true, true_or, or_true, findM, setM, e1, e3, n02]) | (with_reducible refine And.intro ?_ ?_) | (with_reducible refine condW_split ?_ ?_ <;> intro hc <;> (try simp only [push_cast] at hc)) | (with_reducible refine guardW_split ?_ ?_ <;> intro hc <;> (try simp only [push_cast] at hc)) | ((with_reducible refine Rounds_next ?_)) | ((with_reducible refine LoopK_X [1, 5, 9] ?_)) | omega | (with_reducible intro _)))
  refine LoopK_head 6 (fun env => [srcOf 1 (env 6)]) [(1, guardsV sets), (6, .map 0 1), (10, spansV [⟨sm, sm⟩]), (53, .lst 1 [.int .i64 p0.at_, .int .i64 p2.at_]), (54, .int .i64 2), (55, .int .i64 0)] [⟨0, 1, true, [.int .i64 p0.at_, partsV [p0, p1], .int .i64 p2.at_, partsV [p2, p3]]⟩] ?_ ?_
  · (repeat' (first | (simp (disch := omega) only [push_cast, ↓zz, seval, e1, e3, n02]) | (with_reducible refine And.intro ?_ ?_) | (with_reducible refine condW_split ?_ ?_ <;> intro hc <;> (try simp only [push_cast] at hc)) | (with_reducible refine guardW_split ?_ ?_ <;> intro hc <;> (try simp only [push_cast] at hc)) | omega | (with_reducible intro _)))
    all_goals (simp only [partV, e1, e3, n02]; done)
  (repeat' (first | (simp (disch := omega) only [push_cast, ↓zz, seval, findM, inSym, hg, e1, e3, n02]) | (with_reducible refine And.intro ?_ ?_) | (with_reducible refine condW_split ?_ ?_ <;> intro hc <;> (try simp only [push_cast] at hc)) | (with_reducible refine guardW_split ?_ ?_ <;> intro hc <;> (try simp only [push_cast] at hc)) | ((with_reducible refine Rounds_next ?_)) | ((with_reducible first | refine eQ T1 ?_ | refine eQ P1 ?_)) | ((with_reducible first | refine eQ T2 ?_ | refine eQ P2 ?_)) | ((with_reducible first | refine eK hF ?_ | refine eK hL ?_)) | omega | (with_reducible intro _)))
  all_goals ((try simp only [*, decide_true, decide_false, Bool.true_and, Bool.false_and]); (repeat' (first | (simp (disch := omega) only [push_cast, ↓zz, seval, an_tup]) | omega | (with_reducible refine And.intro ?_ ?_))))
theorem values_4_4 (bs dr tk up sm : Int) (p0 p1 p2 p3 : Part) (sets : List (List Span)) (hs : smallB sm = true) (hS : SetsOk [p0, p1, p2, p3] sets) (e1 : p1.at_ = p0.at_) (n02 : ¬ p0.at_ = p2.at_) (n03 : ¬ p0.at_ = p3.at_) (n23 : ¬ p2.at_ = p3.at_) :
    PC Try.prog 83 [termV ⟨bs, dr, tk, up, sm, [p0, p1, p2, p3]⟩, guardsV sets] (.tup [spansV (valsL ⟨bs, dr, tk, up, sm, [p0, p1, p2, p3]⟩ sets), .bool (inSym (valsL ⟨bs, dr, tk, up, sm, [p0, p1, p2, p3]⟩ sets))]) := by
  have hg := pure_guards sets
  have b0 := right_at (hS.parts p0 (by simp))
  have b1 := right_at (hS.parts p1 (by simp))
  have b2 := right_at (hS.parts p2 (by simp))
  have b3 := right_at (hS.parts p3 (by simp))
  have A0 := acc_one hs
  obtain ⟨T1, P1, A1⟩ := values_step (a := p0.at_) hS A0 (by omega) (by simp)
  have l1 : atL [p0, p1, p2, p3] p0.at_ = [p0, p1] := by simp [atL, e1, n02, n03, n23, Ne.symm (show p0.at_ ≠ p2.at_ from n02), Ne.symm (show p0.at_ ≠ p3.at_ from n03), Ne.symm (show p2.at_ ≠ p3.at_ from n23)]
  rw [l1] at T1 P1
  obtain ⟨T2, P2, A2⟩ := values_step (a := p2.at_) hS A1 (by omega) (by simp)
  have l2 : atL [p0, p1, p2, p3] p2.at_ = [p2] := by simp [atL, e1, n02, n03, n23, Ne.symm (show p0.at_ ≠ p2.at_ from n02), Ne.symm (show p0.at_ ≠ p3.at_ from n03), Ne.symm (show p2.at_ ≠ p3.at_ from n23)]
  rw [l2] at T2 P2
  obtain ⟨T3, P3, A3⟩ := values_step (a := p3.at_) hS A2 (by omega) (by simp)
  have l3 : atL [p0, p1, p2, p3] p3.at_ = [p3] := by simp [atL, e1, n02, n03, n23, Ne.symm (show p0.at_ ≠ p2.at_ from n02), Ne.symm (show p0.at_ ≠ p3.at_ from n03), Ne.symm (show p2.at_ ≠ p3.at_ from n23)]
  rw [l3] at T3 P3
  have hv : valsL ⟨bs, dr, tk, up, sm, [p0, p1, p2, p3]⟩ sets = valsF [p0, p1, p2, p3] sets (valsF [p0, p1, p2, p3] sets (valsF [p0, p1, p2, p3] sets ([⟨sm, sm⟩]) p0.at_) p2.at_) p3.at_ := by simp [valsL, placesL, placesF, e1, n02, n03, n23, Ne.symm (show p0.at_ ≠ p2.at_ from n02), Ne.symm (show p0.at_ ≠ p3.at_ from n03), Ne.symm (show p2.at_ ≠ p3.at_ from n23)]
  rw [hv]
  generalize ho1 : valsF [p0, p1, p2, p3] sets ([⟨sm, sm⟩]) p0.at_ = o1 at *
  generalize ht1 : togL [p0, p1] (nth sets p0.at_.toNat) = t1 at *
  generalize ho2 : valsF [p0, p1, p2, p3] sets (o1) p2.at_ = o2 at *
  generalize ht2 : togL [p2] (nth sets p2.at_.toNat) = t2 at *
  generalize ho3 : valsF [p0, p1, p2, p3] sets (o2) p3.at_ = o3 at *
  generalize ht3 : togL [p3] (nth sets p3.at_.toNat) = t3 at *
  have hF := span_First o3 (by have := A3.2; omega)
  have hL := span_Last o3 (by have := A3.2; omega)
  clear hS hv ho1 ht1 l1 ho2 ht2 l2 ho3 ht3 l3
  refine pc_w' c_term_values ?_
  unfold B_term_values
  (repeat' (first | (simp (disch := omega) only [push_cast, ↓zz, seval]) | (with_reducible refine And.intro ?_ ?_) | (with_reducible refine condW_split ?_ ?_ <;> intro hc <;> (try simp only [push_cast] at hc)) | (with_reducible refine guardW_split ?_ ?_ <;> intro hc <;> (try simp only [push_cast] at hc)) | omega | (with_reducible intro _)))
  refine LoopK_rounds 6 ?_
  (repeat' (first | (simp (disch := omega) only [push_cast, ↓zz, seval, xx, List.mem_cons, List.not_mem_nil, or_false, false_or, not_or, not_false_eq_true, true_or, or_true, findM, setM, e1, n02, n03, n23]) | (with_reducible refine And.intro ?_ ?_) | (with_reducible refine condW_split ?_ ?_ <;> intro hc <;> (try simp only [push_cast] at hc)) | (with_reducible refine guardW_split ?_ ?_ <;> intro hc <;> (try simp only [push_cast] at hc)) | ((with_reducible refine Rounds_next ?_)) | ((with_reducible refine LoopK_X [1, 5] ?_)) | omega | (with_reducible intro _)))
  refine LoopK_head 6 (fun env => [srcOf 1 (env 6)]) [(1, guardsV sets), (6, .map 0 1), (10, spansV [⟨sm, sm⟩]), (53, .lst 1 [.int .i64 p0.at_, .int .i64 p2.at_, .int .i64 p3.at_]), (54, .int .i64 3), (55, .int .i64 0)] [⟨0, 1, true, [.int .i64 p0.at_, partsV [p0, p1], .int .i64 p2.at_, partsV [p2], .int .i64 p3.at_, partsV [p3]]⟩] ?_ ?_
  · (repeat' (first | (simp (disch := omega) only [push_cast, ↓zz, seval, e1, n02, n03, n23]) | (with_reducible refine And.intro ?_ ?_) | (with_reducible refine condW_split ?_ ?_ <;> intro hc <;> (try simp only [push_cast] at hc)) | (with_reducible refine guardW_split ?_ ?_ <;> intro hc <;> (try simp only [push_cast] at hc)) | omega | (with_reducible intro _)))
    all_goals (simp only [partV, e1, n02, n03, n23]; done)
  (repeat' (first | (simp (disch := omega) only [push_cast, ↓zz, seval, findM, inSym, hg, e1, n02, n03, n23]) | (with_reducible refine And.intro ?_ ?_) | (with_reducible refine condW_split ?_ ?_ <;> intro hc <;> (try simp only [push_cast] at hc)) | (with_reducible refine guardW_split ?_ ?_ <;> intro hc <;> (try simp only [push_cast] at hc)) | ((with_reducible refine Rounds_next ?_)) | ((with_reducible first | refine eQ T1 ?_ | refine eQ P1 ?_)) | ((with_reducible first | refine eQ T2 ?_ | refine eQ P2 ?_)) | ((with_reducible first | refine eQ T3 ?_ | refine eQ P3 ?_)) | ((with_reducible first | refine eK hF ?_ | refine eK hL ?_)) | omega | (with_reducible intro _)))
  all_goals ((try simp only [*, decide_true, decide_false, Bool.true_and, Bool.false_and]); (repeat' (first | (simp (disch := omega) only [push_cast, ↓zz, seval, an_tup]) | omega | (with_reducible refine And.intro ?_ ?_))))
theorem values_4_5 (bs dr tk up sm : Int) (p0 p1 p2 p3 : Part) (sets : List (List Span)) (hs : smallB sm = true) (hS : SetsOk [p0, p1, p2, p3] sets) (e2 : p2.at_ = p0.at_) (e3 : p3.at_ = p0.at_) (n01 : ¬ p0.at_ = p1.at_) :
    PC Try.prog 83 [termV ⟨bs, dr, tk, up, sm, [p0, p1, p2, p3]⟩, guardsV sets] (.tup [spansV (valsL ⟨bs, dr, tk, up, sm, [p0, p1, p2, p3]⟩ sets), .bool (inSym (valsL ⟨bs, dr, tk, up, sm, [p0, p1, p2, p3]⟩ sets))]) := by
  have hg := pure_guards sets
  have b0 := right_at (hS.parts p0 (by simp))
  have b1 := right_at (hS.parts p1 (by simp))
  have b2 := right_at (hS.parts p2 (by simp))
  have b3 := right_at (hS.parts p3 (by simp))
  have A0 := acc_one hs
  obtain ⟨T1, P1, A1⟩ := values_step (a := p0.at_) hS A0 (by omega) (by simp)
  have l1 : atL [p0, p1, p2, p3] p0.at_ = [p0, p2, p3] := by simp [atL, e2, e3, n01, Ne.symm (show p0.at_ ≠ p1.at_ from n01)]
  rw [l1] at T1 P1
  obtain ⟨T2, P2, A2⟩ := values_step (a := p1.at_) hS A1 (by omega) (by simp)
  have l2 : atL [p0, p1, p2, p3] p1.at_ = [p1] := by simp [atL, e2, e3, n01, Ne.symm (show p0.at_ ≠ p1.at_ from n01)]
  rw [l2] at T2 P2
  have hv : valsL ⟨bs, dr, tk, up, sm, [p0, p1, p2, p3]⟩ sets = valsF [p0, p1, p2, p3] sets (valsF [p0, p1, p2, p3] sets ([⟨sm, sm⟩]) p0.at_) p1.at_ := by simp [valsL, placesL, placesF, e2, e3, n01, Ne.symm (show p0.at_ ≠ p1.at_ from n01)]
  rw [hv]
  generalize ho1 : valsF [p0, p1, p2, p3] sets ([⟨sm, sm⟩]) p0.at_ = o1 at *
  generalize ht1 : togL [p0, p2, p3] (nth sets p0.at_.toNat) = t1 at *
  generalize ho2 : valsF [p0, p1, p2, p3] sets (o1) p1.at_ = o2 at *
  generalize ht2 : togL [p1] (nth sets p1.at_.toNat) = t2 at *
  have hF := span_First o2 (by have := A2.2; omega)
  have hL := span_Last o2 (by have := A2.2; omega)
  clear hS hv ho1 ht1 l1 ho2 ht2 l2
  refine pc_w' c_term_values ?_
  unfold B_term_values
  (repeat' (first | (simp (disch := omega) only [push_cast, ↓zz, seval]) | (with_reducible refine And.intro ?_ ?_) | (with_reducible refine condW_split ?_ ?_ <;> intro hc <;> (try simp only [push_cast] at hc)) | (with_reducible refine guardW_split ?_ ?_ <;> intro hc <;> (try simp only [push_cast] at hc)) | omega | (with_reducible intro _)))
  refine LoopK_rounds 6 ?_
  (repeat' (first | (simp (disch := omega) only [push_cast, ↓zz, seval, xx, List.mem_cons, List.not_mem_nil, or_false, false_or, not_or, not_false_eq_true, true_or, or_true, findM, setM, e2, e3, n01]) | (with_reducible refine And.intro ?_ ?_) | (with_reducible refine condW_split ?_ ?_ <;> intro hc <;> (try simp only [push_cast] at hc)) | (with_reducible refine guardW_split ?_ ?_ <;> intro hc <;> (try simp only [push_cast] at hc)) | ((with_reducible refine Rounds_next ?_)) | ((with_reducible refine LoopK_X [1, 5] ?_)) | omega | (with_reducible intro _)))
  refine LoopK_head 6 (fun env => [srcOf 1 (env 6)]) [(1, guardsV sets), (6, .map 0 1), (10, spansV [⟨sm, sm⟩]), (53, .lst 1 [.int .i64 p0.at_, .int .i64 p1.at_]), (54, .int .i64 2), (55, .int .i64 0)] [⟨0, 1, true, [.int .i64 p0.at_, partsV [p0, p2, p3], .int .i64 p1.at_, partsV [p1]]⟩] ?_ ?_
  · (repeat' (first | (simp (disch := omega) only [push_cast, ↓zz, seval, e2, e3, n01]) | (with_reducible refine And.intro ?_ ?_) | (with_reducible refine condW_split ?_ ?_ <;> intro hc <;> (try simp only [push_cast] at hc)) | (with_reducible refine guardW_split ?_ ?_ <;> intro hc <;> (try simp only [push_cast] at hc)) | omega | (with_reducible intro _)))
    all_goals (simp only [partV, e2, e3, n01]; done)
  (repeat' (first | (simp (disch := omega) only [push_cast, ↓zz, seval, findM, inSym, hg, e2, e3, n01]) | (with_reducible refine And.intro ?_ ?_) | (with_reducible refine condW_split ?_ ?_ <;> intro hc <;> (try simp only [push_cast] at hc)) | (with_reducible refine guardW_split ?_ ?_ <;> intro hc <;> (try simp only [push_cast] at hc)) | ((with_reducible refine Rounds_next ?_)) | ((with_reducible first | refine eQ T1 ?_ | refine eQ P1 ?_)) | ((with_reducible first | refine eQ T2 ?_ | refine eQ P2 ?_)) | ((with_reducible first | refine eK hF ?_ | refine eK hL ?_)) | omega | (with_reducible intro _)))
  all_goals ((try simp only [*, decide_true, decide_false, Bool.true_and, Bool.false_and]); (repeat' (first | (simp (disch := omega) only [push_cast, ↓zz, seval, an_tup]) | omega | (with_reducible refine And.intro ?_ ?_))))
theorem values_4_6 (bs dr tk up sm : Int) (p0 p1 p2 p3 : Part) (sets : List (List Span)) (hs : smallB sm = true) (hS : SetsOk [p0, p1, p2, p3] sets) (e2 : p2.at_ = p0.at_) (e3 : p3.at_ = p1.at_) (n01 : ¬ p0.at_ = p1.at_) :
    PC Try.prog 83 [termV ⟨bs, dr, tk, up, sm, [p0, p1, p2, p3]⟩, guardsV sets] (.tup [spansV (valsL ⟨bs, dr, tk, up, sm, [p0, p1, p2, p3]⟩ sets), .bool (inSym (valsL ⟨bs, dr, tk, up, sm, [p0, p1, p2, p3]⟩ sets))]) := by
  have hg := pure_guards sets
  have b0 := right_at (hS.parts p0 (by simp))
  have b1 := right_at (hS.parts p1 (by simp))
  have b2 := right_at (hS.parts p2 (by simp))
  have b3 := right_at (hS.parts p3 (by simp))
  have A0 := acc_one hs
  obtain ⟨T1, P1, A1⟩ := values_step (a := p0.at_) hS A0 (by omega) (by simp)
  have l1 : atL [p0, p1, p2, p3] p0.at_ = [p0, p2] := by simp [atL, e2, e3, n01, Ne.symm (show p0.at_ ≠ p1.at_ from n01)]
  rw [l1] at T1 P1
  obtain ⟨T2, P2, A2⟩ := values_step (a := p1.at_) hS A1 (by omega) (by simp)
  have l2 : atL [p0, p1, p2, p3] p1.at_ = [p1, p3] := by simp [atL, e2, e3, n01, Ne.symm (show p0.at_ ≠ p1.at_ from n01)]
  rw [l2] at T2 P2
  have hv : valsL ⟨bs, dr, tk, up, sm, [p0, p1, p2, p3]⟩ sets = valsF [p0, p1, p2, p3] sets (valsF [p0, p1, p2, p3] sets ([⟨sm, sm⟩]) p0.at_) p1.at_ := by simp [valsL, placesL, placesF, e2, e3, n01, Ne.symm (show p0.at_ ≠ p1.at_ from n01)]
  rw [hv]
  generalize ho1 : valsF [p0, p1, p2, p3] sets ([⟨sm, sm⟩]) p0.at_ = o1 at *
  generalize ht1 : togL [p0, p2] (nth sets p0.at_.toNat) = t1 at *
  generalize ho2 : valsF [p0, p1, p2, p3] sets (o1) p1.at_ = o2 at *
  generalize ht2 : togL [p1, p3] (nth sets p1.at_.toNat) = t2 at *
  have hF := span_First o2 (by have := A2.2; omega)
  have hL := span_Last o2 (by have := A2.2; omega)
  clear hS hv ho1 ht1 l1 ho2 ht2 l2
  refine pc_w' c_term_values ?_
  unfold B_term_values
  (repeat' (first | (simp (disch := omega) only [push_cast, ↓zz, seval]) | (with_reducible refine And.intro ?_ ?_) | (with_reducible refine condW_split ?_ ?_ <;> intro hc <;> (try simp only [push_cast] at hc)) | (with_reducible refine guardW_split ?_ ?_ <;> intro hc <;> (try simp only [push_cast] at hc)) | omega | (with_reducible intro _)))
  refine LoopK_rounds 6 ?_
  (repeat' (first | (simp (disch := omega) only [push_cast, ↓zz, seval, xx, List.mem_cons, List.not_mem_nil, or_false, false_or, not_or, not_false_eq_true, true_or, or_true, findM, setM, e2, e3, n01]) | (with_reducible refine And.intro ?_ ?_) | (with_reducible refine condW_split ?_ ?_ <;> intro hc <;> (try simp only [push_cast] at hc)) | (with_reducible refine guardW_split ?_ ?_ <;> intro hc <;> (try simp only [push_cast] at hc)) | ((with_reducible refine Rounds_next ?_)) | ((with_reducible refine LoopK_X [1, 5, 8] ?_)) | omega | (with_reducible intro _)))
  refine LoopK_head 6 (fun env => [srcOf 1 (env 6)]) [(1, guardsV sets), (6, .map 0 1), (10, spansV [⟨sm, sm⟩]), (53, .lst 1 [.int .i64 p0.at_, .int .i64 p1.at_]), (54, .int .i64 2), (55, .int .i64 0)] [⟨0, 1, true, [.int .i64 p0.at_, partsV [p0, p2], .int .i64 p1.at_, partsV [p1, p3]]⟩] ?_ ?_
  · (repeat' (first | (simp (disch := omega) only [push_cast, ↓zz, seval, e2, e3, n01]) | (with_reducible refine And.intro ?_ ?_) | (with_reducible refine condW_split ?_ ?_ <;> intro hc <;> (try simp only [push_cast] at hc)) | (with_reducible refine guardW_split ?_ ?_ <;> intro hc <;> (try simp only [push_cast] at hc)) | omega | (with_reducible intro _)))
    all_goals (simp only [partV, e2, e3, n01]; done)
  (repeat' (first | (simp (disch := omega) only [push_cast, ↓zz, seval, findM, inSym, hg, e2, e3, n01]) | (with_reducible refine And.intro ?_ ?_) | (with_reducible refine condW_split ?_ ?_ <;> intro hc <;> (try simp only [push_cast] at hc)) | (with_reducible refine guardW_split ?_ ?_ <;> intro hc <;> (try simp only [push_cast] at hc)) | ((with_reducible refine Rounds_next ?_)) | ((with_reducible first | refine eQ T1 ?_ | refine eQ P1 ?_)) | ((with_reducible first | refine eQ T2 ?_ | refine eQ P2 ?_)) | ((with_reducible first | refine eK hF ?_ | refine eK hL ?_)) | omega | (with_reducible intro _)))
  all_goals ((try simp only [*, decide_true, decide_false, Bool.true_and, Bool.false_and]); (repeat' (first | (simp (disch := omega) only [push_cast, ↓zz, seval, an_tup]) | omega | (with_reducible refine And.intro ?_ ?_))))
theorem values_4_7 (bs dr tk up sm : Int) (p0 p1 p2 p3 : Part) (sets : List (List Span)) (hs : smallB sm = true) (hS : SetsOk [p0, p1, p2, p3] sets) (e2 : p2.at_ = p0.at_) (n01 : ¬ p0.at_ = p1.at_) (n03 : ¬ p0.at_ = p3.at_) (n13 : ¬ p1.at_ = p3.at_) :
    PC Try.prog 83 [termV ⟨bs, dr, tk, up, sm, [p0, p1, p2, p3]⟩, guardsV sets] (.tup [spansV (valsL ⟨bs, dr, tk, up, sm, [p0, p1, p2, p3]⟩ sets), .bool (inSym (valsL ⟨bs, dr, tk, up, sm, [p0, p1, p2, p3]⟩ sets))]) := by
  have hg := pure_guards sets
  have b0 := right_at (hS.parts p0 (by simp))
  have b1 := right_at (hS.parts p1 (by simp))
  have b2 := right_at (hS.parts p2 (by simp))
  have b3 := right_at (hS.parts p3 (by simp))
  have A0 := acc_one hs
  obtain ⟨T1, P1, A1⟩ := values_step (a := p0.at_) hS A0 (by omega) (by simp)
  have l1 : atL [p0, p1, p2, p3] p0.at_ = [p0, p2] := by simp [atL, e2, n01, n03, n13, Ne.symm (show p0.at_ ≠ p1.at_ from n01), Ne.symm (show p0.at_ ≠ p3.at_ from n03), Ne.symm (show p1.at_ ≠ p3.at_ from n13)]
  rw [l1] at T1 P1
  obtain ⟨T2, P2, A2⟩ := values_step (a := p1.at_) hS A1 (by omega) (by simp)
  have l2 : atL [p0, p1, p2, p3] p1.at_ = [p1] := by simp [atL, e2, n01, n03, n13, Ne.symm (show p0.at_ ≠ p1.at_ from n01), Ne.symm (show p0.at_ ≠ p3.at_ from n03), Ne.symm (show p1.at_ ≠ p3.at_ from n13)]
  rw [l2] at T2 P2
  obtain ⟨T3, P3, A3⟩ := values_step (a := p3.at_) hS A2 (by omega) (by simp)
  have l3 : atL [p0, p1, p2, p3] p3.at_ = [p3] := by simp [atL, e2, n01, n03, n13, Ne.symm (show p0.at_ ≠ p1.at_ from n01), Ne.symm (show p0.at_ ≠ p3.at_ from n03), Ne.symm (show p1.at_ ≠ p3.at_ from n13)]
  rw [l3] at T3 P3
  have hv : valsL ⟨bs, dr, tk, up, sm, [p0, p1, p2, p3]⟩ sets = valsF [p0, p1, p2, p3] sets (valsF [p0, p1, p2, p3] sets (valsF [p0, p1, p2, p3] sets ([⟨sm, sm⟩]) p0.at_) p1.at_) p3.at_ := by simp [valsL, placesL, placesF, e2, n01, n03, n13, Ne.symm (show p0.at_ ≠ p1.at_ from n01), Ne.symm (show p0.at_ ≠ p3.at_ from n03), Ne.symm (show p1.at_ ≠ p3.at_ from n13)]
  rw [hv]
  generalize ho1 : valsF [p0, p1, p2, p3] sets ([⟨sm, sm⟩]) p0.at_ = o1 at *
  generalize ht1 : togL [p0, p2] (nth sets p0.at_.toNat) = t1 at *
  generalize ho2 : valsF [p0, p1, p2, p3] sets (o1) p1.at_ = o2 at *
  generalize ht2 : togL [p1] (nth sets p1.at_.toNat) = t2 at *
  generalize ho3 : valsF [p0, p1, p2, p3] sets (o2) p3.at_ = o3 at *
  generalize ht3 : togL [p3] (nth sets p3.at_.toNat) = t3 at *
  have hF := span_First o3 (by have := A3.2; omega)
  have hL := span_Last o3 (by have := A3.2; omega)
  clear hS hv ho1 ht1 l1 ho2 ht2 l2 ho3 ht3 l3
  refine pc_w' c_term_values ?_
  unfold B_term_values
  (repeat' (first | (simp (disch := omega) only [push_cast, ↓zz, seval]) | (with_reducible refine And.intro ?_ ?_) | (with_reducible refine condW_split ?_ ?_ <;> intro hc <;> (try simp only [push_cast] at hc)) | (with_reducible refine guardW_split ?_ ?_ <;> intro hc <;> (try simp only [push_cast] at hc)) | omega | (with_reducible intro _)))
  refine LoopK_rounds 6 ?_
  (repeat' (first | (simp (disch := omega) only [push_cast, ↓zz, seval, xx, List.mem_cons, List.not_mem_nil, or_false, false_or, not_or, not_false_eq_true, true_or, or_true, findM, setM, e2, n01, n03, n13]) | (with_reducible refine And.intro ?_ ?_) | (with_reducible refine condW_split ?_ ?_ <;> intro hc <;> (try simp only [push_cast] at hc)) | (with_reducible refine guardW_split ?_ ?_ <;> intro hc <;> (try simp only [push_cast] at hc)) | ((with_reducible refine Rounds_next ?_)) | ((with_reducible refine LoopK_X [1, 5] ?_)) | omega | (with_reducible intro _)))
  refine LoopK_head 6 (fun env => [srcOf 1 (env 6)]) [(1, guardsV sets), (6, .map 0 1), (10, spansV [⟨sm, sm⟩]), (53, .lst 1 [.int .i64 p0.at_, .int .i64 p1.at_, .int .i64 p3.at_]), (54, .int .i64 3), (55, .int .i64 0)] [⟨0, 1, true, [.int .i64 p0.at_, partsV [p0, p2], .int .i64 p1.at_, partsV [p1], .int .i64 p3.at_, partsV [p3]]⟩] ?_ ?_
  · (repeat' (first | (simp (disch := omega) only [push_cast, ↓zz, seval, e2, n01, n03, n13]) | (with_reducible refine And.intro ?_ ?_) | (with_reducible refine condW_split ?_ ?_ <;> intro hc <;> (try simp only [push_cast] at hc)) | (with_reducible refine guardW_split ?_ ?_ <;> intro hc <;> (try simp only [push_cast] at hc)) | omega | (with_reducible intro _)))
    all_goals (simp only [partV, e2, n01, n03, n13]; done)
  (repeat' (first | (simp (disch := omega) only [push_cast, ↓zz, seval, findM, inSym, hg, e2, n01, n03, n13]) | (with_reducible refine And.intro ?_ ?_) | (with_reducible refine condW_split ?_ ?_ <;> intro hc <;> (try simp only [push_cast] at hc)) | (with_reducible refine guardW_split ?_ ?_ <;> intro hc <;> (try simp only [push_cast] at hc)) | ((with_reducible refine Rounds_next ?_)) | ((with_reducible first | refine eQ T1 ?_ | refine eQ P1 ?_)) | ((with_reducible first | refine eQ T2 ?_ | refine eQ P2 ?_)) | ((with_reducible first | refine eQ T3 ?_ | refine eQ P3 ?_)) | ((with_reducible first | refine eK hF ?_ | refine eK hL ?_)) | omega | (with_reducible intro _)))
  all_goals ((try simp only [*, decide_true, decide_false, Bool.true_and, Bool.false_and]); (repeat' (first | (simp (disch := omega) only [push_cast, ↓zz, seval, an_tup]) | omega | (with_reducible refine And.intro ?_ ?_))))
theorem values_4_8 (bs dr tk up sm : Int) (p0 p1 p2 p3 : Part) (sets : List (List Span)) (hs : smallB sm = true) (hS : SetsOk [p0, p1, p2, p3] sets) (e2 : p2.at_ = p1.at_) (e3 : p3.at_ = p0.at_) (n01 : ¬ p0.at_ = p1.at_) :
    PC Try.prog 83 [termV ⟨bs, dr, tk, up, sm, [p0, p1, p2, p3]⟩, guardsV sets] (.tup [spansV (valsL ⟨bs, dr, tk, up, sm, [p0, p1, p2, p3]⟩ sets), .bool (inSym (valsL ⟨bs, dr, tk, up, sm, [p0, p1, p2, p3]⟩ sets))]) := by
  have hg := pure_guards sets
  have b0 := right_at (hS.parts p0 (by simp))
  have b1 := right_at (hS.parts p1 (by simp))
  have b2 := right_at (hS.parts p2 (by simp))
  have b3 := right_at (hS.parts p3 (by simp))
  have A0 := acc_one hs
  obtain ⟨T1, P1, A1⟩ := values_step (a := p0.at_) hS A0 (by omega) (by simp)
  have l1 : atL [p0, p1, p2, p3] p0.at_ = [p0, p3] := by simp [atL, e2, e3, n01, Ne.symm (show p0.at_ ≠ p1.at_ from n01)]
  rw [l1] at T1 P1
  obtain ⟨T2, P2, A2⟩ := values_step (a := p1.at_) hS A1 (by omega) (by simp)
  have l2 : atL [p0, p1, p2, p3] p1.at_ = [p1, p2] := by simp [atL, e2, e3, n01, Ne.symm (show p0.at_ ≠ p1.at_ from n01)]
  rw [l2] at T2 P2
  have hv : valsL ⟨bs, dr, tk, up, sm, [p0, p1, p2, p3]⟩ sets = valsF [p0, p1, p2, p3] sets (valsF [p0, p1, p2, p3] sets ([⟨sm, sm⟩]) p0.at_) p1.at_ := by simp [valsL, placesL, placesF, e2, e3, n01, Ne.symm (show p0.at_ ≠ p1.at_ from n01)]
  rw [hv]
  generalize ho1 : valsF [p0, p1, p2, p3] sets ([⟨sm, sm⟩]) p0.at_ = o1 at *
  generalize ht1 : togL [p0, p3] (nth sets p0.at_.toNat) = t1 at *
  generalize ho2 : valsF [p0, p1, p2, p3] sets (o1) p1.at_ = o2 at *
  generalize ht2 : togL [p1, p2] (nth sets p1.at_.toNat) = t2 at *
  have hF := span_First o2 (by have := A2.2; omega)
  have hL := span_Last o2 (by have := A2.2; omega)
  clear hS hv ho1 ht1 l1 ho2 ht2 l2
  refine pc_w' c_term_values ?_
  unfold B_term_values
  (repeat' (first | (simp (disch := omega) only [push_cast, ↓zz, seval]) | (with_reducible refine And.intro ?_ ?_) | (with_reducible refine condW_split ?_ ?_ <;> intro hc <;> (try simp only [push_cast] at hc)) | (with_reducible refine guardW_split ?_ ?_ <;> intro hc <;> (try simp only [push_cast] at hc)) | omega | (with_reducible intro _)))
  refine LoopK_rounds 6 ?_
  (repeat' (first | (simp (disch := omega) only [push_cast, ↓zz, seval, xx, List.mem_cons, List.not_mem_nil, or_false, false_or, not_or, not_false_eq_true, true_or, or_true, findM, setM, e2, e3, n01]) | (with_reducible refine And.intro ?_ ?_) | (with_reducible refine condW_split ?_ ?_ <;> intro hc <;> (try simp only [push_cast] at hc)) | (with_reducible refine guardW_split ?_ ?_ <;> intro hc <;> (try simp only [push_cast] at hc)) | ((with_reducible refine Rounds_next ?_)) | ((with_reducible refine LoopK_X [1, 5, 8] ?_)) | omega | (with_reducible intro _)))
  refine LoopK_head 6 (fun env => [srcOf 1 (env 6)]) [(1, guardsV sets), (6, .map 0 1), (10, spansV [⟨sm, sm⟩]), (53, .lst 1 [.int .i64 p0.at_, .int .i64 p1.at_]), (54, .int .i64 2), (55, .int .i64 0)] [⟨0, 1, true, [.int .i64 p0.at_, partsV [p0, p3], .int .i64 p1.at_, partsV [p1, p2]]⟩] ?_ ?_
  · (repeat' (first | (simp (disch := omega) only [push_cast, ↓zz, seval, e2, e3, n01]) | (with_reducible refine And.intro ?_ ?_) | (with_reducible refine condW_split ?_ ?_ <;> intro hc <;> (try simp only [push_cast] at hc)) | (with_reducible refine guardW_split ?_ ?_ <;> intro hc <;> (try simp only [push_cast] at hc)) | omega | (with_reducible intro _)))
    all_goals (simp only [partV, e2, e3, n01]; done)
  (repeat' (first | (simp (disch := omega) only [push_cast, ↓zz, seval, findM, inSym, hg, e2, e3, n01]) | (with_reducible refine And.intro ?_ ?_) | (with_reducible refine condW_split ?_ ?_ <;> intro hc <;> (try simp only [push_cast] at hc)) | (with_reducible refine guardW_split ?_ ?_ <;> intro hc <;> (try simp only [push_cast] at hc)) | ((with_reducible refine Rounds_next ?_)) | ((with_reducible first | refine eQ T1 ?_ | refine eQ P1 ?_)) | ((with_reducible first | refine eQ T2 ?_ | refine eQ P2 ?_)) | ((with_reducible first | refine eK hF ?_ | refine eK hL ?_)) | omega | (with_reducible intro _)))
  all_goals ((try simp only [*, decide_true, decide_false, Bool.true_and, Bool.false_and]); (repeat' (first | (simp (disch := omega) only [push_cast, ↓zz, seval, an_tup]) | omega | (with_reducible refine And.intro ?_ ?_))))
theorem values_4_9 (bs dr tk up sm : Int) (p0 p1 p2 p3 : Part) (sets : List (List Span)) (hs : smallB sm = true) (hS : SetsOk [p0, p1, p2, p3] sets) (e2 : p2.at_ = p1.at_) (e3 : p3.at_ = p1.at_) (n01 : ¬ p0.at_ = p1.at_) :
    PC Try.prog 83 [termV ⟨bs, dr, tk, up, sm, [p0, p1, p2, p3]⟩, guardsV sets] (.tup [spansV (valsL ⟨bs, dr, tk, up, sm, [p0, p1, p2, p3]⟩ sets), .bool (inSym (valsL ⟨bs, dr, tk, up, sm, [p0, p1, p2, p3]⟩ sets))]) := by
  have hg := pure_guards sets
  have b0 := right_at (hS.parts p0 (by simp))
  have b1 := right_at (hS.parts p1 (by simp))
  have b2 := right_at (hS.parts p2 (by simp))
  have b3 := right_at (hS.parts p3 (by simp))
  have A0 := acc_one hs
  obtain ⟨T1, P1, A1⟩ := values_step (a := p0.at_) hS A0 (by omega) (by simp)
  have l1 : atL [p0, p1, p2, p3] p0.at_ = [p0] := by simp [atL, e2, e3, n01, Ne.symm (show p0.at_ ≠ p1.at_ from n01)]
  rw [l1] at T1 P1
  obtain ⟨T2, P2, A2⟩ := values_step (a := p1.at_) hS A1 (by omega) (by simp)
  have l2 : atL [p0, p1, p2, p3] p1.at_ = [p1, p2, p3] := by simp [atL, e2, e3, n01, Ne.symm (show p0.at_ ≠ p1.at_ from n01)]
  rw [l2] at T2 P2
  have hv : valsL ⟨bs, dr, tk, up, sm, [p0, p1, p2, p3]⟩ sets = valsF [p0, p1, p2, p3] sets (valsF [p0, p1, p2, p3] sets ([⟨sm, sm⟩]) p0.at_) p1.at_ := by simp [valsL, placesL, placesF, e2, e3, n01, Ne.symm (show p0.at_ ≠ p1.at_ from n01)]
  rw [hv]
  generalize ho1 : valsF [p0, p1, p2, p3] sets ([⟨sm, sm⟩]) p0.at_ = o1 at *
  generalize ht1 : togL [p0] (nth sets p0.at_.toNat) = t1 at *
  generalize ho2 : valsF [p0, p1, p2, p3] sets (o1) p1.at_ = o2 at *
  generalize ht2 : togL [p1, p2, p3] (nth sets p1.at_.toNat) = t2 at *
  have hF := span_First o2 (by have := A2.2; omega)
  have hL := span_Last o2 (by have := A2.2; omega)
  clear hS hv ho1 ht1 l1 ho2 ht2 l2
  refine pc_w' c_term_values ?_
  unfold B_term_values
  (repeat' (first | (simp (disch := omega) only [push_cast, ↓zz, seval]) | (with_reducible refine And.intro ?_ ?_) | (with_reducible refine condW_split ?_ ?_ <;> intro hc <;> (try simp only [push_cast] at hc)) | (with_reducible refine guardW_split ?_ ?_ <;> intro hc <;> (try simp only [push_cast] at hc)) | omega | (with_reducible intro _)))
  refine LoopK_rounds 6 ?_
  (repeat' (first | (simp (disch := omega) only [push_cast, ↓zz, seval, xx, List.mem_cons, List.not_mem_nil, or_false, false_or, not_or, not_false_eq_true, true_or, or_true, findM, setM, e2, e3, n01]) | (with_reducible refine And.intro ?_ ?_) | (with_reducible refine condW_split ?_ ?_ <;> intro hc <;> (try simp only [push_cast] at hc)) | (with_reducible refine guardW_split ?_ ?_ <;> intro hc <;> (try simp only [push_cast] at hc)) | ((with_reducible refine Rounds_next ?_)) | ((with_reducible refine LoopK_X [1, 8] ?_)) | omega | (with_reducible intro _)))
  refine LoopK_head 6 (fun env => [srcOf 1 (env 6)]) [(1, guardsV sets), (6, .map 0 1), (10, spansV [⟨sm, sm⟩]), (53, .lst 1 [.int .i64 p0.at_, .int .i64 p1.at_]), (54, .int .i64 2), (55, .int .i64 0)] [⟨0, 1, true, [.int .i64 p0.at_, partsV [p0], .int .i64 p1.at_, partsV [p1, p2, p3]]⟩] ?_ ?_
  · (repeat' (first | (simp (disch := omega) only [push_cast, ↓zz, seval, e2, e3, n01]) | (with_reducible refine And.intro ?_ ?_) | (with_reducible refine condW_split ?_ ?_ <;> intro hc <;> (try simp only [push_cast] at hc)) | (with_reducible refine guardW_split ?_ ?_ <;> intro hc <;> (try simp only [push_cast] at hc)) | omega | (with_reducible intro _)))
    all_goals (simp only [partV, e2, e3, n01]; done)
  (repeat' (first | (simp (disch := omega) only [push_cast, ↓zz, seval, findM, inSym, hg, e2, e3, n01]) | (with_reducible refine And.intro ?_ ?_) | (with_reducible refine condW_split ?_ ?_ <;> intro hc <;> (try simp only [push_cast] at hc)) | (with_reducible refine guardW_split ?_ ?_ <;> intro hc <;> (try simp only [push_cast] at hc)) | ((with_reducible refine Rounds_next ?_)) | ((with_reducible first | refine eQ T1 ?_ | refine eQ P1 ?_)) | ((with_reducible first | refine eQ T2 ?_ | refine eQ P2 ?_)) | ((with_reducible first | refine eK hF ?_ | refine eK hL ?_)) | omega | (with_reducible intro _)))
  all_goals ((try simp only [*, decide_true, decide_false, Bool.true_and, Bool.false_and]); (repeat' (first | (simp (disch := omega) only [push_cast, ↓zz, seval, an_tup]) | omega | (with_reducible refine And.intro ?_ ?_))))
theorem values_4_10 (bs dr tk up sm : Int) (p0 p1 p2 p3 : Part) (sets : List (List Span)) (hs : smallB sm = true) (hS : SetsOk [p0, p1, p2, p3] sets) (e2 : p2.at_ = p1.at_) (n01 : ¬ p0.at_ = p1.at_) (n03 : ¬ p0.at_ = p3.at_) (n13 : ¬ p1.at_ = p3.at_) :
    PC Try.prog 83 [termV ⟨bs, dr, tk, up, sm, [p0, p1, p2, p3]⟩, guardsV sets] (.tup [spansV (valsL ⟨bs, dr, tk, up, sm, [p0, p1, p2, p3]⟩ sets), .bool (inSym (valsL ⟨bs, dr, tk, up, sm, [p0, p1, p2, p3]⟩ sets))]) := by
  have hg := pure_guards sets
  have b0 := right_at (hS.parts p0 (by simp))
  have b1 := right_at (hS.parts p1 (by simp))
  have b2 := right_at (hS.parts p2 (by simp))
  have b3 := right_at (hS.parts p3 (by simp))
  have A0 := acc_one hs
  obtain ⟨T1, P1, A1⟩ := values_step (a := p0.at_) hS A0 (by omega) (by simp)
  have l1 : atL [p0, p1, p2, p3] p0.at_ = [p0] := by simp [atL, e2, n01, n03, n13, Ne.symm (show p0.at_ ≠ p1.at_ from n01), Ne.symm (show p0.at_ ≠ p3.at_ from n03), Ne.symm (show p1.at_ ≠ p3.at_ from n13)]
  rw [l1] at T1 P1
  obtain ⟨T2, P2, A2⟩ := values_step (a := p1.at_) hS A1 (by omega) (by simp)
  have l2 : atL [p0, p1, p2, p3] p1.at_ = [p1, p2] := by simp [atL, e2, n01, n03, n13, Ne.symm (show p0.at_ ≠ p1.at_ from n01), Ne.symm (show p0.at_ ≠ p3.at_ from n03), Ne.symm (show p1.at_ ≠ p3.at_ from n13)]
  rw [l2] at T2 P2
  obtain ⟨T3, P3, A3⟩ := values_step (a := p3.at_) hS A2 (by omega) (by simp)
  have l3 : atL [p0, p1, p2, p3] p3.at_ = [p3] := by simp [atL, e2, n01, n03, n13, Ne.symm (show p0.at_ ≠ p1.at_ from n01), Ne.symm (show p0.at_ ≠ p3.at_ from n03), Ne.symm (show p1.at_ ≠ p3.at_ from n13)]
  rw [l3] at T3 P3
  have hv : valsL ⟨bs, dr, tk, up, sm, [p0, p1, p2, p3]⟩ sets = valsF [p0, p1, p2, p3] sets (valsF [p0, p1, p2, p3] sets (valsF [p0, p1, p2, p3] sets ([⟨sm, sm⟩]) p0.at_) p1.at_) p3.at_ := by simp [valsL, placesL, placesF, e2, n01, n03, n13, Ne.symm (show p0.at_ ≠ p1.at_ from n01), Ne.symm (show p0.at_ ≠ p3.at_ from n03), Ne.symm (show p1.at_ ≠ p3.at_ from n13)]
  rw [hv]
  generalize ho1 : valsF [p0, p1, p2, p3] sets ([⟨sm, sm⟩]) p0.at_ = o1 at *
  generalize ht1 : togL [p0] (nth sets p0.at_.toNat) = t1 at *
  generalize ho2 : valsF [p0, p1, p2, p3] sets (o1) p1.at_ = o2 at *
  generalize ht2 : togL [p1, p2] (nth sets p1.at_.toNat) = t2 at *
  generalize ho3 : valsF [p0, p1, p2, p3] sets (o2) p3.at_ = o3 at *
  generalize ht3 : togL [p3] (nth sets p3.at_.toNat) = t3 at *
  have hF := span_First o3 (by have := A3.2; omega)
  have hL := span_Last o3 (by have := A3.2; omega)
  clear hS hv ho1 ht1 l1 ho2 ht2 l2 ho3 ht3 l3
  refine pc_w' c_term_values ?_
  unfold B_term_values
  (repeat' (first | (simp (disch := omega) only [push_cast, ↓zz, seval]) | (with_reducible refine And.intro ?_ ?_) | (with_reducible refine condW_split ?_ ?_ <;> intro hc <;> (try simp only [push_cast] at hc)) | (with_reducible refine guardW_split ?_ ?_ <;> intro hc <;> (try simp only [push_cast] at hc)) | omega | (with_reducible intro _)))
  refine LoopK_rounds 6 ?_
  (repeat' (first | (simp (disch := omega) only [push_cast, ↓zz, seval, xx, List.mem_cons, List.not_mem_nil, or_false, false_or, not_or, not_false_eq_true, true_or, or_true, findM, setM, e2, n01, n03, n13]) | (with_reducible refine And.intro ?_ ?_) | (with_reducible refine condW_split ?_ ?_ <;> intro hc <;> (try simp only [push_cast] at hc)) | (with_reducible refine guardW_split ?_ ?_ <;> intro hc <;> (try simp only [push_cast] at hc)) | ((with_reducible refine Rounds_next ?_)) | ((with_reducible refine LoopK_X [1, 8] ?_)) | omega | (with_reducible intro _)))
  refine LoopK_head 6 (fun env => [srcOf 1 (env 6)]) [(1, guardsV sets), (6, .map 0 1), (10, spansV [⟨sm, sm⟩]), (53, .lst 1 [.int .i64 p0.at_, .int .i64 p1.at_, .int .i64 p3.at_]), (54, .int .i64 3), (55, .int .i64 0)] [⟨0, 1, true, [.int .i64 p0.at_, partsV [p0], .int .i64 p1.at_, partsV [p1, p2], .int .i64 p3.at_, partsV [p3]]⟩] ?_ ?_
  · (repeat' (first | (simp (disch := omega) only [push_cast, ↓zz, seval, e2, n01, n03, n13]) | (with_reducible refine And.intro ?_ ?_) | (with_reducible refine condW_split ?_ ?_ <;> intro hc <;> (try simp only [push_cast] at hc)) | (with_reducible refine guardW_split ?_ ?_ <;> intro hc <;> (try simp only [push_cast] at hc)) | omega | (with_reducible intro _)))
    all_goals (simp only [partV, e2, n01, n03, n13]; done)
  (repeat' (first | (simp (disch := omega) only [push_cast, ↓zz, seval, findM, inSym, hg, e2, n01, n03, n13]) | (with_reducible refine And.intro ?_ ?_) | (with_reducible refine condW_split ?_ ?_ <;> intro hc <;> (try simp only [push_cast] at hc)) | (with_reducible refine guardW_split ?_ ?_ <;> intro hc <;> (try simp only [push_cast] at hc)) | ((with_reducible refine Rounds_next ?_)) | ((with_reducible first | refine eQ T1 ?_ | refine eQ P1 ?_)) | ((with_reducible first | refine eQ T2 ?_ | refine eQ P2 ?_)) | ((with_reducible first | refine eQ T3 ?_ | refine eQ P3 ?_)) | ((with_reducible first | refine eK hF ?_ | refine eK hL ?_)) | omega | (with_reducible intro _)))
  all_goals ((try simp only [*, decide_true, decide_false, Bool.true_and, Bool.false_and]); (repeat' (first | (simp (disch := omega) only [push_cast, ↓zz, seval, an_tup]) | omega | (with_reducible refine And.intro ?_ ?_))))
theorem values_4_11 (bs dr tk up sm : Int) (p0 p1 p2 p3 : Part) (sets : List (List Span)) (hs : smallB sm = true) (hS : SetsOk [p0, p1, p2, p3] sets) (e3 : p3.at_ = p0.at_) (n01 : ¬ p0.at_ = p1.at_) (n02 : ¬ p0.at_ = p2.at_) (n12 : ¬ p1.at_ = p2.at_) :
    PC Try.prog 83 [termV ⟨bs, dr, tk, up, sm, [p0, p1, p2, p3]⟩, guardsV sets] (.tup [spansV (valsL ⟨bs, dr, tk, up, sm, [p0, p1, p2, p3]⟩ sets), .bool (inSym (valsL ⟨bs, dr, tk, up, sm, [p0, p1, p2, p3]⟩ sets))]) := by
  have hg := pure_guards sets
  have b0 := right_at (hS.parts p0 (by simp))
  have b1 := right_at (hS.parts p1 (by simp))
  have b2 := right_at (hS.parts p2 (by simp))
  have b3 := right_at (hS.parts p3 (by simp))
  have A0 := acc_one hs
  obtain ⟨T1, P1, A1⟩ := values_step (a := p0.at_) hS A0 (by omega) (by simp)
  have l1 : atL [p0, p1, p2, p3] p0.at_ = [p0, p3] := by simp [atL, e3, n01, n02, n12, Ne.symm (show p0.at_ ≠ p1.at_ from n01), Ne.symm (show p0.at_ ≠ p2.at_ from n02), Ne.symm (show p1.at_ ≠ p2.at_ from n12)]
  rw [l1] at T1 P1
  obtain ⟨T2, P2, A2⟩ := values_step (a := p1.at_) hS A1 (by omega) (by simp)
  have l2 : atL [p0, p1, p2, p3] p1.at_ = [p1] := by simp [atL, e3, n01, n02, n12, Ne.symm (show p0.at_ ≠ p1.at_ from n01), Ne.symm (show p0.at_ ≠ p2.at_ from n02), Ne.symm (show p1.at_ ≠ p2.at_ from n12)]
  rw [l2] at T2 P2
  obtain ⟨T3, P3, A3⟩ := values_step (a := p2.at_) hS A2 (by omega) (by simp)
  have l3 : atL [p0, p1, p2, p3] p2.at_ = [p2] := by simp [atL, e3, n01, n02, n12, Ne.symm (show p0.at_ ≠ p1.at_ from n01), Ne.symm (show p0.at_ ≠ p2.at_ from n02), Ne.symm (show p1.at_ ≠ p2.at_ from n12)]
  rw [l3] at T3 P3
  have hv : valsL ⟨bs, dr, tk, up, sm, [p0, p1, p2, p3]⟩ sets = valsF [p0, p1, p2, p3] sets (valsF [p0, p1, p2, p3] sets (valsF [p0, p1, p2, p3] sets ([⟨sm, sm⟩]) p0.at_) p1.at_) p2.at_ := by simp [valsL, placesL, placesF, e3, n01, n02, n12, Ne.symm (show p0.at_ ≠ p1.at_ from n01), Ne.symm (show p0.at_ ≠ p2.at_ from n02), Ne.symm (show p1.at_ ≠ p2.at_ from n12)]
  rw [hv]
  generalize ho1 : valsF [p0, p1, p2, p3] sets ([⟨sm, sm⟩]) p0.at_ = o1 at *
  generalize ht1 : togL [p0, p3] (nth sets p0.at_.toNat) = t1 at *
  generalize ho2 : valsF [p0, p1, p2, p3] sets (o1) p1.at_ = o2 at *
  generalize ht2 : togL [p1] (nth sets p1.at_.toNat) = t2 at *
  generalize ho3 : valsF [p0, p1, p2, p3] sets (o2) p2.at_ = o3 at *
  generalize ht3 : togL [p2] (nth sets p2.at_.toNat) = t3 at *
  have hF := span_First o3 (by have := A3.2; omega)
  have hL := span_Last o3 (by have := A3.2; omega)
  clear hS hv ho1 ht1 l1 ho2 ht2 l2 ho3 ht3 l3
  refine pc_w' c_term_values ?_
  unfold B_term_values
  (repeat' (first | (simp (disch := omega) only [push_cast, ↓zz, seval]) | (with_reducible refine And.intro ?_ ?_) | (with_reducible refine condW_split ?_ ?_ <;> intro hc <;> (try simp only [push_cast] at hc)) | (with_reducible refine guardW_split ?_ ?_ <;> intro hc <;> (try simp only [push_cast] at hc)) | omega | (with_reducible intro _)))
  refine LoopK_rounds 6 ?_
  (repeat' (first | (simp (disch := omega) only [push_cast, ↓zz, seval, xx, List.mem_cons, List.not_mem_nil, or_false, false_or, not_or, not_false_eq_true, true_or, or_true, findM, setM, e3, n01, n02, n12]) | (with_reducible refine And.intro ?_ ?_) | (with_reducible refine condW_split ?_ ?_ <;> intro hc <;> (try simp only [push_cast] at hc)) | (with_reducible refine guardW_split ?_ ?_ <;> intro hc <;> (try simp only [push_cast] at hc)) | ((with_reducible refine Rounds_next ?_)) | ((with_reducible refine LoopK_X [1, 5] ?_)) | omega | (with_reducible intro _)))
  refine LoopK_head 6 (fun env => [srcOf 1 (env 6)]) [(1, guardsV sets), (6, .map 0 1), (10, spansV [⟨sm, sm⟩]), (53, .lst 1 [.int .i64 p0.at_, .int .i64 p1.at_, .int .i64 p2.at_]), (54, .int .i64 3), (55, .int .i64 0)] [⟨0, 1, true, [.int .i64 p0.at_, partsV [p0, p3], .int .i64 p1.at_, partsV [p1], .int .i64 p2.at_, partsV [p2]]⟩] ?_ ?_
  · (repeat' (first | (simp (disch := omega) only [push_cast, ↓zz, seval, e3, n01, n02, n12]) | (with_reducible refine And.intro ?_ ?_) | (with_reducible refine condW_split ?_ ?_ <;> intro hc <;> (try simp only [push_cast] at hc)) | (with_reducible refine guardW_split ?_ ?_ <;> intro hc <;> (try simp only [push_cast] at hc)) | omega | (with_reducible intro _)))
    all_goals (simp only [partV, e3, n01, n02, n12]; done)
  (repeat' (first | (simp (disch := omega) only [push_cast, ↓zz, seval, findM, inSym, hg, e3, n01, n02, n12]) | (with_reducible refine And.intro ?_ ?_) | (with_reducible refine condW_split ?_ ?_ <;> intro hc <;> (try simp only [push_cast] at hc)) | (with_reducible refine guardW_split ?_ ?_ <;> intro hc <;> (try simp only [push_cast] at hc)) | ((with_reducible refine Rounds_next ?_)) | ((with_reducible first | refine eQ T1 ?_ | refine eQ P1 ?_)) | ((with_reducible first | refine eQ T2 ?_ | refine eQ P2 ?_)) | ((with_reducible first | refine eQ T3 ?_ | refine eQ P3 ?_)) | ((with_reducible first | refine eK hF ?_ | refine eK hL ?_)) | omega | (with_reducible intro _)))
  all_goals ((try simp only [*, decide_true, decide_false, Bool.true_and, Bool.false_and]); (repeat' (first | (simp (disch := omega) only [push_cast, ↓zz, seval, an_tup]) | omega | (with_reducible refine And.intro ?_ ?_))))
theorem values_4_12 (bs dr tk up sm : Int) (p0 p1 p2 p3 : Part) (sets : List (List Span)) (hs : smallB sm = true) (hS : SetsOk [p0, p1, p2, p3] sets) (e3 : p3.at_ = p1.at_) (n01 : ¬ p0.at_ = p1.at_) (n02 : ¬ p0.at_ = p2.at_) (n12 : ¬ p1.at_ = p2.at_) :
    PC Try.prog 83 [termV ⟨bs, dr, tk, up, sm, [p0, p1, p2, p3]⟩, guardsV sets] (.tup [spansV (valsL ⟨bs, dr, tk, up, sm, [p0, p1, p2, p3]⟩ sets), .bool (inSym (valsL ⟨bs, dr, tk, up, sm, [p0, p1, p2, p3]⟩ sets))]) := by
  have hg := pure_guards sets
  have b0 := right_at (hS.parts p0 (by simp))
  have b1 := right_at (hS.parts p1 (by simp))
  have b2 := right_at (hS.parts p2 (by simp))
  have b3 := right_at (hS.parts p3 (by simp))
  have A0 := acc_one hs
  obtain ⟨T1, P1, A1⟩ := values_step (a := p0.at_) hS A0 (by omega) (by simp)
  have l1 : atL [p0, p1, p2, p3] p0.at_ = [p0] := by simp [atL, e3, n01, n02, n12, Ne.symm (show p0.at_ ≠ p1.at_ from n01), Ne.symm (show p0.at_ ≠ p2.at_ from n02), Ne.symm (show p1.at_ ≠ p2.at_ from n12)]
  rw [l1] at T1 P1
  obtain ⟨T2, P2, A2⟩ := values_step (a := p1.at_) hS A1 (by omega) (by simp)
  have l2 : atL [p0, p1, p2, p3] p1.at_ = [p1, p3] := by simp [atL, e3, n01, n02, n12, Ne.symm (show p0.at_ ≠ p1.at_ from n01), Ne.symm (show p0.at_ ≠ p2.at_ from n02), Ne.symm (show p1.at_ ≠ p2.at_ from n12)]
  rw [l2] at T2 P2
  obtain ⟨T3, P3, A3⟩ := values_step (a := p2.at_) hS A2 (by omega) (by simp)
  have l3 : atL [p0, p1, p2, p3] p2.at_ = [p2] := by simp [atL, e3, n01, n02, n12, Ne.symm (show p0.at_ ≠ p1.at_ from n01), Ne.symm (show p0.at_ ≠ p2.at_ from n02), Ne.symm (show p1.at_ ≠ p2.at_ from n12)]
  rw [l3] at T3 P3
  have hv : valsL ⟨bs, dr, tk, up, sm, [p0, p1, p2, p3]⟩ sets = valsF [p0, p1, p2, p3] sets (valsF [p0, p1, p2, p3] sets (valsF [p0, p1, p2, p3] sets ([⟨sm, sm⟩]) p0.at_) p1.at_) p2.at_ := by simp [valsL, placesL, placesF, e3, n01, n02, n12, Ne.symm (show p0.at_ ≠ p1.at_ from n01), Ne.symm (show p0.at_ ≠ p2.at_ from n02), Ne.symm (show p1.at_ ≠ p2.at_ from n12)]
  rw [hv]
  generalize ho1 : valsF [p0, p1, p2, p3] sets ([⟨sm, sm⟩]) p0.at_ = o1 at *
  generalize ht1 : togL [p0] (nth sets p0.at_.toNat) = t1 at *
  generalize ho2 : valsF [p0, p1, p2, p3] sets (o1) p1.at_ = o2 at *
  generalize ht2 : togL [p1, p3] (nth sets p1.at_.toNat) = t2 at *
  generalize ho3 : valsF [p0, p1, p2, p3] sets (o2) p2.at_ = o3 at *
  generalize ht3 : togL [p2] (nth sets p2.at_.toNat) = t3 at *
  have hF := span_First o3 (by have := A3.2; omega)
  have hL := span_Last o3 (by have := A3.2; omega)
  clear hS hv ho1 ht1 l1 ho2 ht2 l2 ho3 ht3 l3
  refine pc_w' c_term_values ?_
  unfold B_term_values
  (repeat' (first | (simp (disch := omega) only [push_cast, ↓zz, seval]) | (with_reducible refine And.intro ?_ ?_) | (with_reducible refine condW_split ?_ ?_ <;> intro hc <;> (try simp only [push_cast] at hc)) | (with_reducible refine guardW_split ?_ ?_ <;> intro hc <;> (try simp only [push_cast] at hc)) | omega | (with_reducible intro _)))
  refine LoopK_rounds 6 ?_
  (repeat' (first | (simp (disch := omega) only [push_cast, ↓zz, seval, xx, List.mem_cons, List.not_mem_nil, or_false, false_or, not_or, not_false_eq_true, true_or, or_true, findM, setM, e3, n01, n02, n12]) | (with_reducible refine And.intro ?_ ?_) | (with_reducible refine condW_split ?_ ?_ <;> intro hc <;> (try simp only [push_cast] at hc)) | (with_reducible refine guardW_split ?_ ?_ <;> intro hc <;> (try simp only [push_cast] at hc)) | ((with_reducible refine Rounds_next ?_)) | ((with_reducible refine LoopK_X [1, 8] ?_)) | omega | (with_reducible intro _)))
  refine LoopK_head 6 (fun env => [srcOf 1 (env 6)]) [(1, guardsV sets), (6, .map 0 1), (10, spansV [⟨sm, sm⟩]), (53, .lst 1 [.int .i64 p0.at_, .int .i64 p1.at_, .int .i64 p2.at_]), (54, .int .i64 3), (55, .int .i64 0)] [⟨0, 1, true, [.int .i64 p0.at_, partsV [p0], .int .i64 p1.at_, partsV [p1, p3], .int .i64 p2.at_, partsV [p2]]⟩] ?_ ?_
  · (repeat' (first | (simp (disch := omega) only [push_cast, ↓zz, seval, e3, n01, n02, n12]) | (with_reducible refine And.intro ?_ ?_) | (with_reducible refine condW_split ?_ ?_ <;> intro hc <;> (try simp only [push_cast] at hc)) | (with_reducible refine guardW_split ?_ ?_ <;> intro hc <;> (try simp only [push_cast] at hc)) | omega | (with_reducible intro _)))
    all_goals (simp only [partV, e3, n01, n02, n12]; done)
  (repeat' (first | (simp (disch := omega) only [push_cast, ↓zz, seval, findM, inSym, hg, e3, n01, n02, n12]) | (with_reducible refine And.intro ?_ ?_) | (with_reducible refine condW_split ?_ ?_ <;> intro hc <;> (try simp only [push_cast] at hc)) | (with_reducible refine guardW_split ?_ ?_ <;> intro hc <;> (try simp only [push_cast] at hc)) | ((with_reducible refine Rounds_next ?_)) | ((with_reducible first | refine eQ T1 ?_ | refine eQ P1 ?_)) | ((with_reducible first | refine eQ T2 ?_ | refine eQ P2 ?_)) | ((with_reducible first | refine eQ T3 ?_ | refine eQ P3 ?_)) | ((with_reducible first | refine eK hF ?_ | refine eK hL ?_)) | omega | (with_reducible intro _)))
  all_goals ((try simp only [*, decide_true, decide_false, Bool.true_and, Bool.false_and]); (repeat' (first | (simp (disch := omega) only [push_cast, ↓zz, seval, an_tup]) | omega | (with_reducible refine And.intro ?_ ?_))))
theorem values_4_13 (bs dr tk up sm : Int) (p0 p1 p2 p3 : Part) (sets : List (List Span)) (hs : smallB sm = true) (hS : SetsOk [p0, p1, p2, p3] sets) (e3 : p3.at_ = p2.at_) (n01 : ¬ p0.at_ = p1.at_) (n02 : ¬ p0.at_ = p2.at_) (n12 : ¬ p1.at_ = p2.at_) :
    PC Try.prog 83 [termV ⟨bs, dr, tk, up, sm, [p0, p1, p2, p3]⟩, guardsV sets] (.tup [spansV (valsL ⟨bs, dr, tk, up, sm, [p0, p1, p2, p3]⟩ sets), .bool (inSym (valsL ⟨bs, dr, tk, up, sm, [p0, p1, p2, p3]⟩ sets))]) := by
  have hg := pure_guards sets
  have b0 := right_at (hS.parts p0 (by simp))
  have b1 := right_at (hS.parts p1 (by simp))
  have b2 := right_at (hS.parts p2 (by simp))
  have b3 := right_at (hS.parts p3 (by simp))
  have A0 := acc_one hs
  obtain ⟨T1, P1, A1⟩ := values_step (a := p0.at_) hS A0 (by omega) (by simp)
  have l1 : atL [p0, p1, p2, p3] p0.at_ = [p0] := by simp [atL, e3, n01, n02, n12, Ne.symm (show p0.at_ ≠ p1.at_ from n01), Ne.symm (show p0.at_ ≠ p2.at_ from n02), Ne.symm (show p1.at_ ≠ p2.at_ from n12)]
  rw [l1] at T1 P1
  obtain ⟨T2, P2, A2⟩ := values_step (a := p1.at_) hS A1 (by omega) (by simp)
  have l2 : atL [p0, p1, p2, p3] p1.at_ = [p1] := by simp [atL, e3, n01, n02, n12, Ne.symm (show p0.at_ ≠ p1.at_ from n01), Ne.symm (show p0.at_ ≠ p2.at_ from n02), Ne.symm (show p1.at_ ≠ p2.at_ from n12)]
  rw [l2] at T2 P2
  obtain ⟨T3, P3, A3⟩ := values_step (a := p2.at_) hS A2 (by omega) (by simp)
  have l3 : atL [p0, p1, p2, p3] p2.at_ = [p2, p3] := by simp [atL, e3, n01, n02, n12, Ne.symm (show p0.at_ ≠ p1.at_ from n01), Ne.symm (show p0.at_ ≠ p2.at_ from n02), Ne.symm (show p1.at_ ≠ p2.at_ from n12)]
  rw [l3] at T3 P3
  have hv : valsL ⟨bs, dr, tk, up, sm, [p0, p1, p2, p3]⟩ sets = valsF [p0, p1, p2, p3] sets (valsF [p0, p1, p2, p3] sets (valsF [p0, p1, p2, p3] sets ([⟨sm, sm⟩]) p0.at_) p1.at_) p2.at_ := by simp [valsL, placesL, placesF, e3, n01, n02, n12, Ne.symm (show p0.at_ ≠ p1.at_ from n01), Ne.symm (show p0.at_ ≠ p2.at_ from n02), Ne.symm (show p1.at_ ≠ p2.at_ from n12)]
  rw [hv]
  generalize ho1 : valsF [p0, p1, p2, p3] sets ([⟨sm, sm⟩]) p0.at_ = o1 at *
  generalize ht1 : togL [p0] (nth sets p0.at_.toNat) = t1 at *
  generalize ho2 : valsF [p0, p1, p2, p3] sets (o1) p1.at_ = o2 at *
  generalize ht2 : togL [p1] (nth sets p1.at_.toNat) = t2 at *
  generalize ho3 : valsF [p0, p1, p2, p3] sets (o2) p2.at_ = o3 at *
  generalize ht3 : togL [p2, p3] (nth sets p2.at_.toNat) = t3 at *
  have hF := span_First o3 (by have := A3.2; omega)
  have hL := span_Last o3 (by have := A3.2; omega)
  clear hS hv ho1 ht1 l1 ho2 ht2 l2 ho3 ht3 l3
  refine pc_w' c_term_values ?_
  unfold B_term_values
  (repeat' (first | (simp (disch := omega) only [push_cast, ↓zz, seval]) | (with_reducible refine And.intro ?_ ?_) | (with_reducible refine condW_split ?_ ?_ <;> intro hc <;> (try simp only [push_cast] at hc)) | (with_reducible refine guardW_split ?_ ?_ <;> intro hc <;> (try simp only [push_cast] at hc)) | omega | (with_reducible intro _)))
  refine LoopK_rounds 6 ?_
  (repeat' (first | (simp (disch := omega) only [push_cast, ↓zz, seval, xx, List.mem_cons, List.not_mem_nil, or_false, false_or, not_or, not_false_eq_true, true_or, or_true, findM, setM, e3, n01, n02, n12]) | (with_reducible refine And.intro ?_ ?_) | (with_reducible refine condW_split ?_ ?_ <;> intro hc <;> (try simp only [push_cast] at hc)) | (with_reducible refine guardW_split ?_ ?_ <;> intro hc <;> (try simp only [push_cast] at hc)) | ((with_reducible refine Rounds_next ?_)) | ((with_reducible refine LoopK_X [1, 11] ?_)) | omega | (with_reducible intro _)))
  refine LoopK_head 6 (fun env => [srcOf 1 (env 6)]) [(1, guardsV sets), (6, .map 0 1), (10, spansV [⟨sm, sm⟩]), (53, .lst 1 [.int .i64 p0.at_, .int .i64 p1.at_, .int .i64 p2.at_]), (54, .int .i64 3), (55, .int .i64 0)] [⟨0, 1, true, [.int .i64 p0.at_, partsV [p0], .int .i64 p1.at_, partsV [p1], .int .i64 p2.at_, partsV [p2, p3]]⟩] ?_ ?_
  · (repeat' (first | (simp (disch := omega) only [push_cast, ↓zz, seval, e3, n01, n02, n12]) | (with_reducible refine And.intro ?_ ?_) | (with_reducible refine condW_split ?_ ?_ <;> intro hc <;> (try simp only [push_cast] at hc)) | (with_reducible refine guardW_split ?_ ?_ <;> intro hc <;> (try simp only [push_cast] at hc)) | omega | (with_reducible intro _)))
    all_goals (simp only [partV, e3, n01, n02, n12]; done)
  (repeat' (first | (simp (disch := omega) only [push_cast, ↓zz, seval, findM, inSym, hg, e3, n01, n02, n12]) | (with_reducible refine And.intro ?_ ?_) | (with_reducible refine condW_split ?_ ?_ <;> intro hc <;> (try simp only [push_cast] at hc)) | (with_reducible refine guardW_split ?_ ?_ <;> intro hc <;> (try simp only [push_cast] at hc)) | ((with_reducible refine Rounds_next ?_)) | ((with_reducible first | refine eQ T1 ?_ | refine eQ P1 ?_)) | ((with_reducible first | refine eQ T2 ?_ | refine eQ P2 ?_)) | ((with_reducible first | refine eQ T3 ?_ | refine eQ P3 ?_)) | ((with_reducible first | refine eK hF ?_ | refine eK hL ?_)) | omega | (with_reducible intro _)))
  all_goals ((try simp only [*, decide_true, decide_false, Bool.true_and, Bool.false_and]); (repeat' (first | (simp (disch := omega) only [push_cast, ↓zz, seval, an_tup]) | omega | (with_reducible refine And.intro ?_ ?_))))
theorem values_4_14 (bs dr tk up sm : Int) (p0 p1 p2 p3 : Part) (sets : List (List Span)) (hs : smallB sm = true) (hS : SetsOk [p0, p1, p2, p3] sets) (n01 : ¬ p0.at_ = p1.at_) (n02 : ¬ p0.at_ = p2.at_) (n03 : ¬ p0.at_ = p3.at_) (n12 : ¬ p1.at_ = p2.at_) (n13 : ¬ p1.at_ = p3.at_) (n23 : ¬ p2.at_ = p3.at_) :
    PC Try.prog 83 [termV ⟨bs, dr, tk, up, sm, [p0, p1, p2, p3]⟩, guardsV sets] (.tup [spansV (valsL ⟨bs, dr, tk, up, sm, [p0, p1, p2, p3]⟩ sets), .bool (inSym (valsL ⟨bs, dr, tk, up, sm, [p0, p1, p2, p3]⟩ sets))]) := by
  have hg := pure_guards sets
  have b0 := right_at (hS.parts p0 (by simp))
  have b1 := right_at (hS.parts p1 (by simp))
  have b2 := right_at (hS.parts p2 (by simp))
  have b3 := right_at (hS.parts p3 (by simp))
  have A0 := acc_one hs
  obtain ⟨T1, P1, A1⟩ := values_step (a := p0.at_) hS A0 (by omega) (by simp)
  have l1 : atL [p0, p1, p2, p3] p0.at_ = [p0] := by simp [atL, n01, n02, n03, n12, n13, n23, Ne.symm (show p0.at_ ≠ p1.at_ from n01), Ne.symm (show p0.at_ ≠ p2.at_ from n02), Ne.symm (show p0.at_ ≠ p3.at_ from n03), Ne.symm (show p1.at_ ≠ p2.at_ from n12), Ne.symm (show p1.at_ ≠ p3.at_ from n13), Ne.symm (show p2.at_ ≠ p3.at_ from n23)]
  rw [l1] at T1 P1
  obtain ⟨T2, P2, A2⟩ := values_step (a := p1.at_) hS A1 (by omega) (by simp)
  have l2 : atL [p0, p1, p2, p3] p1.at_ = [p1] := by simp [atL, n01, n02, n03, n12, n13, n23, Ne.symm (show p0.at_ ≠ p1.at_ from n01), Ne.symm (show p0.at_ ≠ p2.at_ from n02), Ne.symm (show p0.at_ ≠ p3.at_ from n03), Ne.symm (show p1.at_ ≠ p2.at_ from n12), Ne.symm (show p1.at_ ≠ p3.at_ from n13), Ne.symm (show p2.at_ ≠ p3.at_ from n23)]
  rw [l2] at T2 P2
  obtain ⟨T3, P3, A3⟩ := values_step (a := p2.at_) hS A2 (by omega) (by simp)
  have l3 : atL [p0, p1, p2, p3] p2.at_ = [p2] := by simp [atL, n01, n02, n03, n12, n13, n23, Ne.symm (show p0.at_ ≠ p1.at_ from n01), Ne.symm (show p0.at_ ≠ p2.at_ from n02), Ne.symm (show p0.at_ ≠ p3.at_ from n03), Ne.symm (show p1.at_ ≠ p2.at_ from n12), Ne.symm (show p1.at_ ≠ p3.at_ from n13), Ne.symm (show p2.at_ ≠ p3.at_ from n23)]
  rw [l3] at T3 P3
  obtain ⟨T4, P4, A4⟩ := values_step (a := p3.at_) hS A3 (by omega) (by simp)
  have l4 : atL [p0, p1, p2, p3] p3.at_ = [p3] := by simp [atL, n01, n02, n03, n12, n13, n23, Ne.symm (show p0.at_ ≠ p1.at_ from n01), Ne.symm (show p0.at_ ≠ p2.at_ from n02), Ne.symm (show p0.at_ ≠ p3.at_ from n03), Ne.symm (show p1.at_ ≠ p2.at_ from n12), Ne.symm (show p1.at_ ≠ p3.at_ from n13), Ne.symm (show p2.at_ ≠ p3.at_ from n23)]
  rw [l4] at T4 P4
  have hv : valsL ⟨bs, dr, tk, up, sm, [p0, p1, p2, p3]⟩ sets = valsF [p0, p1, p2, p3] sets (valsF [p0, p1, p2, p3] sets (valsF [p0, p1, p2, p3] sets (valsF [p0, p1, p2, p3] sets ([⟨sm, sm⟩]) p0.at_) p1.at_) p2.at_) p3.at_ := by simp [valsL, placesL, placesF, n01, n02, n03, n12, n13, n23, Ne.symm (show p0.at_ ≠ p1.at_ from n01), Ne.symm (show p0.at_ ≠ p2.at_ from n02), Ne.symm (show p0.at_ ≠ p3.at_ from n03), Ne.symm (show p1.at_ ≠ p2.at_ from n12), Ne.symm (show p1.at_ ≠ p3.at_ from n13), Ne.symm (show p2.at_ ≠ p3.at_ from n23)]
  rw [hv]
  generalize ho1 : valsF [p0, p1, p2, p3] sets ([⟨sm, sm⟩]) p0.at_ = o1 at *
  generalize ht1 : togL [p0] (nth sets p0.at_.toNat) = t1 at *
  generalize ho2 : valsF [p0, p1, p2, p3] sets (o1) p1.at_ = o2 at *
  generalize ht2 : togL [p1] (nth sets p1.at_.toNat) = t2 at *
  generalize ho3 : valsF [p0, p1, p2, p3] sets (o2) p2.at_ = o3 at *
  generalize ht3 : togL [p2] (nth sets p2.at_.toNat) = t3 at *
  generalize ho4 : valsF [p0, p1, p2, p3] sets (o3) p3.at_ = o4 at *
  generalize ht4 : togL [p3] (nth sets p3.at_.toNat) = t4 at *
  have hF := span_First o4 (by have := A4.2; omega)
  have hL := span_Last o4 (by have := A4.2; omega)
  clear hS hv ho1 ht1 l1 ho2 ht2 l2 ho3 ht3 l3 ho4 ht4 l4
  refine pc_w' c_term_values ?_
  unfold B_term_values
  (repeat' (first | (simp (disch := omega) only [push_cast, ↓zz, seval]) | (with_reducible refine And.intro ?_ ?_) | (with_reducible refine condW_split ?_ ?_ <;> intro hc <;> (try simp only [push_cast] at hc)) | (with_reducible refine guardW_split ?_ ?_ <;> intro hc <;> (try simp only [push_cast] at hc)) | omega | (with_reducible intro _)))
  refine LoopK_rounds 6 ?_
  (repeat' (first | (simp (disch := omega) only [push_cast, ↓zz, seval, xx, List.mem_cons, List.not_mem_nil, or_false, false_or, not_or, not_false_eq_true, true_or, or_true, findM, setM, n01, n02, n03, n12, n13, n23]) | (with_reducible refine And.intro ?_ ?_) | (with_reducible refine condW_split ?_ ?_ <;> intro hc <;> (try simp only [push_cast] at hc)) | (with_reducible refine guardW_split ?_ ?_ <;> intro hc <;> (try simp only [push_cast] at hc)) | ((with_reducible refine Rounds_next ?_)) | ((with_reducible refine LoopK_X [1] ?_)) | omega | (with_reducible intro _)))
  refine LoopK_head 6 (fun env => [srcOf 1 (env 6)]) [(1, guardsV sets), (6, .map 0 1), (10, spansV [⟨sm, sm⟩]), (53, .lst 1 [.int .i64 p0.at_, .int .i64 p1.at_, .int .i64 p2.at_, .int .i64 p3.at_]), (54, .int .i64 4), (55, .int .i64 0)] [⟨0, 1, true, [.int .i64 p0.at_, partsV [p0], .int .i64 p1.at_, partsV [p1], .int .i64 p2.at_, partsV [p2], .int .i64 p3.at_, partsV [p3]]⟩] ?_ ?_
  · (repeat' (first | (simp (disch := omega) only [push_cast, ↓zz, seval, n01, n02, n03, n12, n13, n23]) | (with_reducible refine And.intro ?_ ?_) | (with_reducible refine condW_split ?_ ?_ <;> intro hc <;> (try simp only [push_cast] at hc)) | (with_reducible refine guardW_split ?_ ?_ <;> intro hc <;> (try simp only [push_cast] at hc)) | omega | (with_reducible intro _)))
    all_goals (simp only [partV, n01, n02, n03, n12, n13, n23]; done)
  (repeat' (first | (simp (disch := omega) only [push_cast, ↓zz, seval, findM, inSym, hg, n01, n02, n03, n12, n13, n23]) | (with_reducible refine And.intro ?_ ?_) | (with_reducible refine condW_split ?_ ?_ <;> intro hc <;> (try simp only [push_cast] at hc)) | (with_reducible refine guardW_split ?_ ?_ <;> intro hc <;> (try simp only [push_cast] at hc)) | ((with_reducible refine Rounds_next ?_)) | ((with_reducible first | refine eQ T1 ?_ | refine eQ P1 ?_)) | ((with_reducible first | refine eQ T2 ?_ | refine eQ P2 ?_)) | ((with_reducible first | refine eQ T3 ?_ | refine eQ P3 ?_)) | ((with_reducible first | refine eQ T4 ?_ | refine eQ P4 ?_)) | ((with_reducible first | refine eK hF ?_ | refine eK hL ?_)) | omega | (with_reducible intro _)))
  all_goals ((try simp only [*, decide_true, decide_false, Bool.true_and, Bool.false_and]); (repeat' (first | (simp (disch := omega) only [push_cast, ↓zz, seval, an_tup]) | omega | (with_reducible refine And.intro ?_ ?_))))
theorem values_4 (bs dr tk up sm : Int) (p0 p1 p2 p3 : Part) (sets : List (List Span)) (hs : smallB sm = true) (hS : SetsOk [p0, p1, p2, p3] sets) :
    PC Try.prog 83 [termV ⟨bs, dr, tk, up, sm, [p0, p1, p2, p3]⟩, guardsV sets] (.tup [spansV (valsL ⟨bs, dr, tk, up, sm, [p0, p1, p2, p3]⟩ sets), .bool (inSym (valsL ⟨bs, dr, tk, up, sm, [p0, p1, p2, p3]⟩ sets))]) := by
  rcases Classical.em (p1.at_ = p0.at_) with e1 | x01
  · skip
    rcases Classical.em (p2.at_ = p0.at_) with e2 | x02
    · skip
      rcases Classical.em (p3.at_ = p0.at_) with e3 | x03
      · skip
        exact values_4_0 bs dr tk up sm p0 p1 p2 p3 sets hs hS e1 e2 e3
      have n03 : ¬ p0.at_ = p3.at_ := fun h => x03 h.symm
      exact values_4_1 bs dr tk up sm p0 p1 p2 p3 sets hs hS e1 e2 n03
    have n02 : ¬ p0.at_ = p2.at_ := fun h => x02 h.symm
    rcases Classical.em (p3.at_ = p0.at_) with e3 | x03
    · skip
      exact values_4_2 bs dr tk up sm p0 p1 p2 p3 sets hs hS e1 e3 n02
    have n03 : ¬ p0.at_ = p3.at_ := fun h => x03 h.symm
    rcases Classical.em (p3.at_ = p2.at_) with e3 | x23
    · skip
      exact values_4_3 bs dr tk up sm p0 p1 p2 p3 sets hs hS e1 e3 n02
    have n23 : ¬ p2.at_ = p3.at_ := fun h => x23 h.symm
    exact values_4_4 bs dr tk up sm p0 p1 p2 p3 sets hs hS e1 n02 n03 n23
  have n01 : ¬ p0.at_ = p1.at_ := fun h => x01 h.symm
  rcases Classical.em (p2.at_ = p0.at_) with e2 | x02
  · skip
    rcases Classical.em (p3.at_ = p0.at_) with e3 | x03
    · skip
      exact values_4_5 bs dr tk up sm p0 p1 p2 p3 sets hs hS e2 e3 n01
    have n03 : ¬ p0.at_ = p3.at_ := fun h => x03 h.symm
    rcases Classical.em (p3.at_ = p1.at_) with e3 | x13
    · skip
      exact values_4_6 bs dr tk up sm p0 p1 p2 p3 sets hs hS e2 e3 n01
    have n13 : ¬ p1.at_ = p3.at_ := fun h => x13 h.symm
    exact values_4_7 bs dr tk up sm p0 p1 p2 p3 sets hs hS e2 n01 n03 n13
  have n02 : ¬ p0.at_ = p2.at_ := fun h => x02 h.symm
  rcases Classical.em (p2.at_ = p1.at_) with e2 | x12
  · skip
    rcases Classical.em (p3.at_ = p0.at_) with e3 | x03
    · skip
      exact values_4_8 bs dr tk up sm p0 p1 p2 p3 sets hs hS e2 e3 n01
    have n03 : ¬ p0.at_ = p3.at_ := fun h => x03 h.symm
    rcases Classical.em (p3.at_ = p1.at_) with e3 | x13
    · skip
      exact values_4_9 bs dr tk up sm p0 p1 p2 p3 sets hs hS e2 e3 n01
    have n13 : ¬ p1.at_ = p3.at_ := fun h => x13 h.symm
    exact values_4_10 bs dr tk up sm p0 p1 p2 p3 sets hs hS e2 n01 n03 n13
  have n12 : ¬ p1.at_ = p2.at_ := fun h => x12 h.symm
  rcases Classical.em (p3.at_ = p0.at_) with e3 | x03
  · skip
    exact values_4_11 bs dr tk up sm p0 p1 p2 p3 sets hs hS e3 n01 n02 n12
  have n03 : ¬ p0.at_ = p3.at_ := fun h => x03 h.symm
  rcases Classical.em (p3.at_ = p1.at_) with e3 | x13
  · skip
    exact values_4_12 bs dr tk up sm p0 p1 p2 p3 sets hs hS e3 n01 n02 n12
  have n13 : ¬ p1.at_ = p3.at_ := fun h => x13 h.symm
  rcases Classical.em (p3.at_ = p2.at_) with e3 | x23
  · skip
    exact values_4_13 bs dr tk up sm p0 p1 p2 p3 sets hs hS e3 n01 n02 n12
  have n23 : ¬ p2.at_ = p3.at_ := fun h => x23 h.symm
  exact values_4_14 bs dr tk up sm p0 p1 p2 p3 sets hs hS n01 n02 n03 n12 n13 n23
theorem term_values (t : Term) (sets : List (List Span)) (hl : t.parts.length ≤ 4) (hs : smallB t.sum = true) (hS : SetsOk t.parts sets) :
    PC Try.prog 83 [termV t, guardsV sets] (.tup [spansV (valsL t sets), .bool (inSym (valsL t sets))]) := by
  obtain ⟨bs, dr, tk, up, sm, l⟩ := t
  match l, hl, hS with
  | [], _, hS => exact values_0 bs dr tk up sm sets hs hS
  | [p0], _, hS => exact values_1 bs dr tk up sm p0 sets hs hS
  | [p0, p1], _, hS => exact values_2 bs dr tk up sm p0 p1 sets hs hS
  | [p0, p1, p2], _, hS => exact values_3 bs dr tk up sm p0 p1 p2 sets hs hS
  | [p0, p1, p2, p3], _, hS => exact values_4 bs dr tk up sm p0 p1 p2 p3 sets hs hS
  | _ :: _ :: _ :: _ :: _ :: _, hl, _ => simp at hl
end Go.Proofs.Ytdjbcenfgceejaa
set_option linter.unusedSimpArgs false
set_option linter.unusedVariables false
namespace Go.Proofs.Ytdjbcenfgceejaa
open Abs
def midG (gs : List (List Span)) (k : Nat) : List (List Span) := (gs.take k).map symI ++ List.replicate (gs.length - k) []
theorem midG_len {gs : List (List Span)} {k : Nat} (h : k ≤ gs.length) : (midG gs k).length = gs.length := by simp [midG]; omega
theorem midG_end (gs : List (List Span)) : midG gs gs.length = gs.map symI := by simp [midG]
theorem midG_set {gs : List (List Span)} {k : Nat} (h : k < gs.length) : ((midG gs k).map spansV).set k (spansV (symI (nth gs k))) = (midG gs (k + 1)).map spansV := by
  have e : gs.length - k = (gs.length - (k + 1)) + 1 := by omega
  rw [midG, midG, take_at h, e, List.replicate_succ, List.map_append, List.set_append_right _ _ (by simp; omega)]
  simp [show min k gs.length = k by omega]
theorem midG_at {gs : List (List Span)} {k : Nat} (h : k < gs.length) : nth (midG gs (k + 1)) k = symI (nth gs k) := by
  rw [midG, take_at h, nth, List.getD_eq_getElem?_getD, List.map_append, List.append_assoc, List.getElem?_append_right (by simp; omega)]
  simp [show min k gs.length = k by omega]
theorem pure_rep (n : Nat) : pureL (List.replicate n AV.nilS) = true := by
  induction n with
  | zero => rfl
  | succ n ih => simp [List.replicate_succ, pureL, AV.pure, ih]
theorem midG_nil (l : List Grp) (gs : List (List Span)) : leSL l (List.replicate gs.length .nilS) ((midG gs 0).map spansV) := by
  simp only [midG, List.take_zero, List.map_nil, List.nil_append, Nat.sub_zero, List.map_replicate]
  generalize gs.length = n
  induction n with
  | zero => rfl
  | succ n ih => exact ⟨⟨by decide, rfl⟩, ih⟩
def someB (gs : List (List Span)) (k : Nat) : Bool := (gs.take k).all fun g => decide (0 < ((symI g).length : Int))
theorem someB_at {gs : List (List Span)} {k : Nat} (h : k < gs.length) : someB gs (k + 1) = (someB gs k && decide (0 < ((symI (nth gs k)).length : Int))) := by
  rw [someB, take_at h, List.all_append]; simp [someB]
def prtB (t : Term) (n : Int) : Bool := t.parts.all fun p => rightB p n
def innerV (t : Term) (gs : List (List Span)) : List Span × Bool :=
  if 4 < gs.length ∨ numbersB t = false then ([], false) else if prtB t gs.length = false then ([], false) else
    if someB gs gs.length = false then ([], true) else (valsL t (gs.map symI), inSym (valsL t (gs.map symI)))
theorem prt_at {l : List Part} {n : Int} {k : Nat} (h : k < l.length) : (l.drop k).all (fun p => rightB p n) = (rightB (nth l k) n && (l.drop (k + 1)).all fun p => rightB p n) := by rw [drop_at h, List.all_cons]
theorem setsOk_sym {t : Term} {gs : List (List Span)} (h : prtB t gs.length = true) (hg : gs.length ≤ 4) : SetsOk t.parts (gs.map symI) where
  parts p hp := by
    rw [List.length_map]
    exact List.all_eq_true.1 h p hp
  syms s hs := by
    obtain ⟨g, _, rfl⟩ := List.mem_map.1 hs
    exact symI_syms g
  many := by simp; omega
theorem term_inner (t : Term) (gs : List (List Span)) (ht : t.parts.length < 1000000000000) (hg : ∀ g ∈ gs, g.length ≤ 1000000) (hl : gs.length ≤ 9223372036854775807) :
    PC Try.prog 69 [termV t, guardsV gs] (.tup [spansV (innerV t gs).1, .bool (innerV t gs).2]) := by
  have hP := pure_guards gs
  have hN := term_numbers t ht
  have hY := term_symbols
  refine pc_w' c_term_inner ?_
  unfold B_term_inner
  by_cases h1 : 4 < gs.length ∨ numbersB t = false
  · rw [innerV, if_pos h1]
    (repeat' (first | (simp (disch := omega) only [push_cast, ↓zz, seval]) | (with_reducible refine And.intro ?_ ?_) | (with_reducible refine condW_split ?_ ?_ <;> intro hc <;> (try simp only [push_cast] at hc)) | (with_reducible refine guardW_split ?_ ?_ <;> intro hc <;> (try simp only [push_cast] at hc)) | ((with_reducible first | refine eK hN ?_ | refine eQ hN ?_ | refine eG hN ?_)) | ((with_reducible first | refine cK hN ?_ | refine cQ hN ?_ | refine cG hN ?_); (simp (disch := omega) only [push_cast, ↓zz, seval]); (fail_if_success (with_reducible change False))) | omega | (with_reducible intro _)))
    all_goals first
      | ((repeat' (first | (simp (disch := omega) only [push_cast, ↓zz, seval, an_tup]) | omega | (with_reducible refine And.intro ?_ ?_))); done)
      | (exfalso; rcases h1 with h1 | h1 <;> first | omega | simp_all)
  have h4 : gs.length ≤ 4 := by omega
  have hn : numbersB t = true := by simpa using (not_or.1 h1).2
  (repeat' (first | (simp (disch := omega) only [push_cast, ↓zz, seval, hn]) | (with_reducible refine And.intro ?_ ?_) | (with_reducible refine condW_split ?_ ?_ <;> intro hc <;> (try simp only [push_cast] at hc)) | (with_reducible refine guardW_split ?_ ?_ <;> intro hc <;> (try simp only [push_cast] at hc)) | ((with_reducible first | refine eK hN ?_ | refine eQ hN ?_ | refine eG hN ?_)) | ((with_reducible first | refine cK hN ?_ | refine cQ hN ?_ | refine cG hN ?_); (simp (disch := omega) only [push_cast, ↓zz, seval, hn]); (fail_if_success (with_reducible change False))) | omega | (with_reducible intro _)))
  refine LoopK_T (T_loopR (fun (k : Nat) => k ≤ gs.length) (fun k => gs.length - k)
    (fun k => [(1, guardsV gs), (2, .ptr 0 1 0 0), (6, .bool (someB gs k)), (7, .ref 1 1 0 gs.length), (23, guardsV gs), (24, .int .i64 gs.length), (25, .int .i64 k)]) (fun k => [⟨6, 1, true, [termV t]⟩, ⟨1, 1, true, (midG gs k).map spansV⟩]) (fun env _ => [srcOf 1 (env 2), srcOf 1 (env 7)]) 0 (by simp) ?_ ?_)
  · have e := midG_nil
    have hr : pureL (List.replicate gs.length AV.nilS) = true := pure_rep gs.length
    have hs0 : someB gs 0 = true := rfl
    (repeat' (first | (simp (disch := omega) only [push_cast, ↓zz, seval, hs0, hP, hr]) | (with_reducible refine And.intro ?_ ?_) | (with_reducible refine condW_split ?_ ?_ <;> intro hc <;> (try simp only [push_cast] at hc)) | (with_reducible refine guardW_split ?_ ?_ <;> intro hc <;> (try simp only [push_cast] at hc)) | omega | (with_reducible intro _)))
    all_goals exact e _ gs
  intro k hk
  have hml := midG_len hk
  have hpm := pure_guards (midG gs k)
  rcases Nat.lt_or_ge k gs.length with hkl | hkl
  · have hM := span_Meet (nth gs k) [⟨0, 1114111⟩] (by have := hg _ (nth_mem hkl); omega) (by simp)
    rw [sym_meet] at hM
    have e1 := midG_set hkl
    have e2 := midG_at hkl
    have e3 := someB_at hkl
    have hpm2 := pure_guards (midG gs (k + 1))
    have hml2 := midG_len (gs := gs) (k := k + 1) (by omega)
    refine W_T ?_
    (repeat' (first | (simp (disch := omega) only [push_cast, ↓zz, seval, hP, hpm, hpm2, hml, hml2, e1, e2]) | (with_reducible refine And.intro ?_ ?_) | (with_reducible refine condW_split ?_ ?_ <;> intro hc <;> (try simp only [push_cast] at hc)) | (with_reducible refine guardW_split ?_ ?_ <;> intro hc <;> (try simp only [push_cast] at hc)) | ((with_reducible first | refine eK hY ?_ | refine eQ hY ?_ | refine eG hY ?_)) | ((with_reducible first | refine eK hM ?_ | refine eQ hM ?_ | refine eG hM ?_)) | ((with_reducible first | refine cK hY ?_ | refine cQ hY ?_ | refine cG hY ?_); (simp (disch := omega) only [push_cast, ↓zz, seval, hP, hpm, hpm2, hml, hml2, e1, e2]); (fail_if_success (with_reducible change False))) | ((with_reducible first | refine cK hM ?_ | refine cQ hM ?_ | refine cG hM ?_); (simp (disch := omega) only [push_cast, ↓zz, seval, hP, hpm, hpm2, hml, hml2, e1, e2]); (fail_if_success (with_reducible change False))) | omega | (with_reducible intro _)))
    all_goals
      refine ⟨k + 1, ?_⟩
      (repeat' (first | (simp (disch := omega) only [push_cast, ↓zz, seval, e3]) | (with_reducible refine And.intro ?_ ?_) | (with_reducible refine condW_split ?_ ?_ <;> intro hc <;> (try simp only [push_cast] at hc)) | (with_reducible refine guardW_split ?_ ?_ <;> intro hc <;> (try simp only [push_cast] at hc)) | omega | (with_reducible intro _)))
    all_goals (simp only [*, Bool.true_and, Bool.false_and])
  · obtain rfl : k = gs.length := by omega
    rw [midG_end] at *
    refine W_T ?_
    (repeat' (first | (simp (disch := omega) only [push_cast, ↓zz, seval, hP, hpm]) | (with_reducible refine And.intro ?_ ?_) | (with_reducible refine condW_split ?_ ?_ <;> intro hc <;> (try simp only [push_cast] at hc)) | (with_reducible refine guardW_split ?_ ?_ <;> intro hc <;> (try simp only [push_cast] at hc)) | omega | (with_reducible intro _)))
    refine LoopK_T (T_loopR (fun (k : Nat) => k ≤ t.parts.length ∧ prtB t gs.length = (t.parts.drop k).all fun p => rightB p gs.length) (fun k => t.parts.length - k)
      (fun k => [(1, guardsV gs), (2, .ptr 0 1 0 0), (6, .bool (someB gs gs.length)), (7, guardsV (gs.map symI)), (47, partsV t.parts), (48, .int .i64 t.parts.length), (49, .int .i64 k)]) (fun k => [⟨6, 1, true, [termV t]⟩]) (fun env _ => [srcOf 1 (env 2)]) 0 ⟨by simp, rfl⟩ ?_ ?_)
    · have et : List.take gs.length (gs.map symI) = gs.map symI := List.take_of_length_le (by simp)
      (repeat' (first | (simp (disch := omega) only [push_cast, ↓zz, seval, hP, hpm, et]) | (with_reducible refine And.intro ?_ ?_) | (with_reducible refine condW_split ?_ ?_ <;> intro hc <;> (try simp only [push_cast] at hc)) | (with_reducible refine guardW_split ?_ ?_ <;> intro hc <;> (try simp only [push_cast] at hc)) | omega | (with_reducible intro _)))
    rintro k ⟨k1, k2⟩
    rcases Nat.lt_or_ge k t.parts.length with hkp | hkp
    · have hR := part_Right (nth t.parts k) gs.length
      rw [prt_at hkp] at k2
      refine W_T ?_
      (repeat' (first | (simp (disch := omega) only [push_cast, ↓zz, seval, hP, hpm]) | (with_reducible refine And.intro ?_ ?_) | (with_reducible refine condW_split ?_ ?_ <;> intro hc <;> (try simp only [push_cast] at hc)) | (with_reducible refine guardW_split ?_ ?_ <;> intro hc <;> (try simp only [push_cast] at hc)) | ((with_reducible first | refine eK hR ?_ | refine eQ hR ?_ | refine eG hR ?_)) | ((with_reducible first | refine cK hR ?_ | refine cQ hR ?_ | refine cG hR ?_); (simp (disch := omega) only [push_cast, ↓zz, seval, hP, hpm]); (fail_if_success (with_reducible change False))) | omega | (with_reducible intro _)))
      · have hp : prtB t gs.length = false := by rw [k2]; simp [*]
        rw [innerV, if_neg h1, if_pos hp]
        (repeat' (first | (simp (disch := omega) only [push_cast, ↓zz, seval, an_tup]) | omega | (with_reducible refine And.intro ?_ ?_)))
      · exact ⟨k + 1, by push_cast, ⟨by omega, by rw [k2]; simp [*]⟩, by omega⟩
    · rw [List.drop_of_length_le hkp] at k2
      have hp : prtB t gs.length = true := k2
      have hnum := hn
      simp only [numbersB, Bool.and_eq_true, decide_eq_true_eq] at hnum
      have hV := term_values t (gs.map symI) hnum.2.2 hnum.1.1.2 (setsOk_sym hp h4)
      have hI : innerV t gs = if someB gs gs.length = false then ([], true) else (valsL t (gs.map symI), inSym (valsL t (gs.map symI))) := by rw [innerV, if_neg h1, if_neg (by simp [hp])]
      refine W_T ?_
      (repeat' (first | (simp (disch := omega) only [push_cast, ↓zz, seval, hP, hpm]) | (with_reducible refine And.intro ?_ ?_) | (with_reducible refine condW_split ?_ ?_ <;> intro hc <;> (try simp only [push_cast] at hc)) | (with_reducible refine guardW_split ?_ ?_ <;> intro hc <;> (try simp only [push_cast] at hc)) | ((with_reducible first | refine eK hV ?_ | refine eQ hV ?_ | refine eG hV ?_)) | ((with_reducible first | refine cK hV ?_ | refine cQ hV ?_ | refine cG hV ?_); (simp (disch := omega) only [push_cast, ↓zz, seval, hP, hpm]); (fail_if_success (with_reducible change False))) | omega | (with_reducible intro _)))
      all_goals
        rw [hI]
        first
          | rw [if_pos (by assumption)]
          | rw [if_neg (by simp [*])]
        (repeat' (first | (simp (disch := omega) only [push_cast, ↓zz, seval, an_tup]) | omega | (with_reducible refine And.intro ?_ ?_)))
      all_goals trace_state
def imageV (t : Term) (gs : List (List Span)) : List Span × Bool :=
  if (innerV t gs).2 = false then ([], false) else if (innerV t gs).1.length = 0 then ([], true) else (moveL (imgL t.outer (innerV t gs).1) t.base, true)
theorem inner_acc (t : Term) (gs : List (List Span)) (h : smallB t.sum = true) : (innerV t gs).1.length ≤ 2147483649 := by
  unfold innerV
  repeat' split
  all_goals first | (simp; done) | skip
  unfold valsL
  have key : ∀ (pl : List Int) (out : List Span), Acc out → Acc (pl.foldl (valsF t.parts (gs.map symI)) out) := fun pl => by
    induction pl with
    | nil => exact fun out h => h
    | cons a pl ih => exact fun out h => ih _ (plus_acc _ _)
  exact (key _ _ (acc_one h)).2
theorem term_Image (t : Term) (gs : List (List Span)) (ht : t.parts.length < 1000000000000) (hg : ∀ g ∈ gs, g.length ≤ 1000000) (hl : gs.length ≤ 9223372036854775807) :
    PC Try.prog 35 [termV t, guardsV gs] (.tup [spansV (imageV t gs).1, .bool (imageV t gs).2]) := by
  have hP := pure_guards gs
  have hI := term_inner t gs ht hg hl
  have hO := term_outer t
  have hlen : (innerV t gs).2 = true → (innerV t gs).1.length ≤ 2147483649 := fun h => by
    by_cases hs : smallB t.sum = true
    · exact inner_acc t gs hs
    · have : numbersB t = false := by simp [numbersB, hs]
      rw [innerV, if_pos (.inr this)] at h
      cases h
  refine pc_w' c_term_Image ?_
  unfold B_term_Image
  rcases Bool.eq_false_or_eq_true (innerV t gs).2 with h2 | h2
  · have hl2 := hlen h2
    have hA := imgL_acc t.outer (innerV t gs).1
    have hM := part_Image t.outer (innerV t gs).1 (by omega)
    have hV := span_Move (imgL t.outer (innerV t gs).1) t.base (by have := hA.2; omega)
    (repeat' (first | (simp (disch := omega) only [push_cast, ↓zz, seval, hP, h2]) | (with_reducible refine And.intro ?_ ?_) | (with_reducible refine condW_split ?_ ?_ <;> intro hc <;> (try simp only [push_cast] at hc)) | (with_reducible refine guardW_split ?_ ?_ <;> intro hc <;> (try simp only [push_cast] at hc)) | ((with_reducible first | refine eK hI ?_ | refine eQ hI ?_ | refine eG hI ?_)) | ((with_reducible first | refine eK hO ?_ | refine eQ hO ?_ | refine eG hO ?_)) | ((with_reducible first | refine eK hM ?_ | refine eQ hM ?_ | refine eG hM ?_)) | ((with_reducible first | refine eK hV ?_ | refine eQ hV ?_ | refine eG hV ?_)) | ((with_reducible first | refine cK hI ?_ | refine cQ hI ?_ | refine cG hI ?_); (simp (disch := omega) only [push_cast, ↓zz, seval, hP, h2]); (fail_if_success (with_reducible change False))) | ((with_reducible first | refine cK hO ?_ | refine cQ hO ?_ | refine cG hO ?_); (simp (disch := omega) only [push_cast, ↓zz, seval, hP, h2]); (fail_if_success (with_reducible change False))) | ((with_reducible first | refine cK hM ?_ | refine cQ hM ?_ | refine cG hM ?_); (simp (disch := omega) only [push_cast, ↓zz, seval, hP, h2]); (fail_if_success (with_reducible change False))) | ((with_reducible first | refine cK hV ?_ | refine cQ hV ?_ | refine cG hV ?_); (simp (disch := omega) only [push_cast, ↓zz, seval, hP, h2]); (fail_if_success (with_reducible change False))) | omega | (with_reducible intro _)))
    all_goals
      rw [imageV, if_neg (by simp [h2])]
      first
        | rw [if_pos (by omega)]
        | rw [if_neg (by omega)]
      (repeat' (first | (simp (disch := omega) only [push_cast, ↓zz, seval, an_tup]) | omega | (with_reducible refine And.intro ?_ ?_)))
  · (repeat' (first | (simp (disch := omega) only [push_cast, ↓zz, seval, hP, h2]) | (with_reducible refine And.intro ?_ ?_) | (with_reducible refine condW_split ?_ ?_ <;> intro hc <;> (try simp only [push_cast] at hc)) | (with_reducible refine guardW_split ?_ ?_ <;> intro hc <;> (try simp only [push_cast] at hc)) | ((with_reducible first | refine eK hI ?_ | refine eQ hI ?_ | refine eG hI ?_)) | ((with_reducible first | refine cK hI ?_ | refine cQ hI ?_ | refine cG hI ?_); (simp (disch := omega) only [push_cast, ↓zz, seval, hP, h2]); (fail_if_success (with_reducible change False))) | omega | (with_reducible intro _)))
    all_goals
      rw [imageV, if_pos h2]
      (repeat' (first | (simp (disch := omega) only [push_cast, ↓zz, seval, an_tup]) | omega | (with_reducible refine And.intro ?_ ?_)))
def fitsT (t : Term) (i o : Int) (gs : List (List Span)) : Bool := rightT t i o gs.length && ((imageV t gs).2 && decide (minusL (imageV t gs).1 (domL o) = []))
theorem image_len (t : Term) (gs : List (List Span)) : (imageV t gs).1.length ≤ 2147483649 := by
  unfold imageV
  repeat' split
  all_goals first | (simp; done) | skip
  have h1 := (imgL_acc t.outer (innerV t gs).1).2
  have h2 := move_len (imgL t.outer (innerV t gs).1) t.base
  simp only
  omega
theorem dom_len (s : Int) : (domL s).length ≤ 2 := by unfold domL; split <;> (try split) <;> simp
theorem term_Fits (t : Term) (i o : Int) (gs : List (List Span)) (ht : t.parts.length < 1000000000000) (hg : ∀ g ∈ gs, g.length ≤ 1000000) (hl : gs.length ≤ 9223372036854775807) :
    PC Try.prog 38 [termV t, .int .i64 i, .int .i64 o, guardsV gs] (.bool (fitsT t i o gs)) := by
  have hP := pure_guards gs
  have hR := term_Right t i o gs.length ht
  have hI := term_Image t gs ht hg hl
  have hD := word_Domain o
  have hW := span_Within (imageV t gs).1 (domL o) (by have := image_len t gs; omega) (by have := dom_len o; omega)
  refine pc_w' c_term_Fits ?_
  unfold B_term_Fits fitsT
  (repeat' (first | (simp (disch := omega) only [push_cast, ↓zz, seval, hP]) | (with_reducible refine And.intro ?_ ?_) | (with_reducible refine condW_split ?_ ?_ <;> intro hc <;> (try simp only [push_cast] at hc)) | (with_reducible refine guardW_split ?_ ?_ <;> intro hc <;> (try simp only [push_cast] at hc)) | ((with_reducible first | refine eK hR ?_ | refine eQ hR ?_ | refine eG hR ?_)) | ((with_reducible first | refine eK hI ?_ | refine eQ hI ?_ | refine eG hI ?_)) | ((with_reducible first | refine eK hD ?_ | refine eQ hD ?_ | refine eG hD ?_)) | ((with_reducible first | refine eK hW ?_ | refine eQ hW ?_ | refine eG hW ?_)) | ((with_reducible first | refine cK hR ?_ | refine cQ hR ?_ | refine cG hR ?_); (simp (disch := omega) only [push_cast, ↓zz, seval, hP]); (fail_if_success (with_reducible change False))) | ((with_reducible first | refine cK hI ?_ | refine cQ hI ?_ | refine cG hI ?_); (simp (disch := omega) only [push_cast, ↓zz, seval, hP]); (fail_if_success (with_reducible change False))) | ((with_reducible first | refine cK hD ?_ | refine cQ hD ?_ | refine cG hD ?_); (simp (disch := omega) only [push_cast, ↓zz, seval, hP]); (fail_if_success (with_reducible change False))) | ((with_reducible first | refine cK hW ?_ | refine cQ hW ?_ | refine cG hW ?_); (simp (disch := omega) only [push_cast, ↓zz, seval, hP]); (fail_if_success (with_reducible change False))) | omega | (with_reducible intro _)))
  all_goals simp only [*, Bool.true_and, Bool.false_and]
end Go.Proofs.Ytdjbcenfgceejaa
set_option linter.unusedSimpArgs false
set_option linter.unusedVariables false
namespace Go.Proofs.Ytdjbcenfgceejaa
open Abs
theorem plain_ends : ∀ {m : List Span}, Plain m → m ≠ [] → ∃ a b, firstI m = some a ∧ lastI m = some b ∧ memL m a ∧ memL m b ∧ ∀ v, memL m v → a ≤ v ∧ v ≤ b
  | [], _, h => absurd rfl h
  | [s], h, _ => by
    have := h.head
    refine ⟨s.lo, s.hi, rfl, rfl, memL_cons.2 (.inl (by omega)), memL_cons.2 (.inl (by omega)), fun v hv => ?_⟩
    rw [memL_cons] at hv
    simpa [memL_nil] using hv
  | s :: r :: m, h, _ => by
    have hs := h.head
    obtain ⟨a, b, e1, e2, h1, h2, h3⟩ := plain_ends h.tail (by simp)
    have hb := h.after h2
    refine ⟨s.lo, b, rfl, ?_, memL_cons.2 (.inl (by omega)), memL_cons.2 (.inr h2), fun v hv => ?_⟩
    · simpa [lastI] using e2
    · rcases memL_cons.1 hv with h4 | h4
      · omega
      · have := h.after h4
        have := h3 v h4
        omega
theorem not_nil {l : List Span} {v : Int} (h : memL l v) : l ≠ [] := by rintro rfl; exact memL_nil v h
theorem inSym_spec {l : List Span} {u : Int} (hu : memL l u) (hb : ∀ v, memL l v → -1073741824 ≤ v ∧ v ≤ 1073741824) : inSym l = true ↔ ∀ v, memL l v → 0 ≤ v ∧ v ≤ 1114111 := by
  obtain ⟨p1, p2⟩ := normI_plain l
  have hm : ∀ v, memL (normI l) v ↔ memL l v := fun v => by rw [p2]; exact ⟨fun h => h.1, fun h => ⟨h, hb v h⟩⟩
  obtain ⟨a, b, e1, e2, h1, h2, h3⟩ := plain_ends p1 (not_nil ((hm u).2 hu))
  have hl : 0 < (l.length : Int) := by
    have := List.length_pos_iff.2 (not_nil hu)
    omega
  simp only [inSym, e1, e2, Option.getD_some, Bool.and_eq_true, decide_eq_true_eq]
  constructor
  · rintro ⟨_, k1, k2⟩ v hv
    have := h3 v ((hm v).2 hv)
    omega
  · intro h
    exact ⟨hl, (h a ((hm a).1 h1)).1, (h b ((hm b).1 h2)).2⟩
theorem win_some {gs : List (List Span)} : someB gs gs.length = true ↔ ∃ w, Win (gs.map symI) w := by
  rw [someB, List.take_length, List.all_eq_true]
  constructor
  · intro h
    refine ⟨(gs.map symI).map fun s => (nth s 0).lo, by simp, fun i hi => ?_⟩
    have hi' : i < gs.length := by simpa using hi
    have h1 := h _ (nth_mem hi')
    have e1 : nth (gs.map symI) i = symI (nth gs i) := by simp [nth, hi']
    have e2 : nth ((gs.map symI).map fun s => (nth s 0).lo) i = (nth (symI (nth gs i)) 0).lo := by simp [nth, hi']
    rw [e1, e2]
    simp only [decide_eq_true_eq] at h1
    have hm := nth_mem (l := symI (nth gs i)) (i := 0) (by omega)
    have hs := (symI_syms (nth gs i)).2 _ hm
    exact ⟨_, hm, by omega, by omega⟩
  · rintro ⟨w, hw⟩ g hg
    obtain ⟨i, hi, rfl⟩ := List.getElem_of_mem hg
    have h1 := hw.2 i (by simpa using hi)
    have e1 : nth (gs.map symI) i = symI gs[i] := by simp [nth, hi]
    rw [e1] at h1
    have := List.length_pos_iff.2 (not_nil h1)
    simp only [decide_eq_true_eq]
    omega
theorem image_spec {t : Term} {gs : List (List Span)} (h4 : gs.length ≤ 4) (hn : numbersB t = true) (hp : prtB t gs.length = true) :
    ((imageV t gs).2 = true ↔ ∀ w, Win (gs.map symI) w → (valueT t w).isSome = true) ∧ ((imageV t gs).2 = false → (imageV t gs).1 = []) ∧
    ((imageV t gs).2 = true → Plain (imageV t gs).1 ∧ ∀ v, memL (imageV t gs).1 v ↔ ∃ w, Win (gs.map symI) w ∧ valueT t w = some v) := by
  have hS := setsOk_sym hp h4
  have hnum := hn
  simp only [numbersB, Bool.and_eq_true, decide_eq_true_eq] at hnum
  obtain ⟨⟨⟨hb, hs⟩, ho⟩, _, hl⟩ := hnum
  have hsm := small_bd hs
  have hbm := small_bd hb
  have hI : innerV t gs = if someB gs gs.length = false then ([], true) else (valsL t (gs.map symI), inSym (valsL t (gs.map symI))) := by
    rw [innerV, if_neg (by simp [hn]; omega), if_neg (by simp [hp])]
  have hsome := @win_some gs
  cases hB : someB gs gs.length
  · rw [hB] at hI hsome
    have hno : ∀ w, ¬ Win (gs.map symI) w := fun w hw => by have := hsome.2 ⟨w, hw⟩; cases this
    have e : imageV t gs = ([], true) := by rw [imageV, hI]; simp
    rw [e]
    refine ⟨⟨fun _ w hw => absurd hw (hno w), fun _ => rfl⟩, fun h => (by cases h), fun _ => ⟨⟨by simp, by simp⟩, fun v => ⟨fun h => absurd h (memL_nil v), fun ⟨w, hw, _⟩ => absurd hw (hno w)⟩⟩⟩
  · rw [hB] at hI hsome
    obtain ⟨w0, hw0⟩ := hsome.1 rfl
    obtain ⟨v1, v2⟩ := vals_spec hS hl hs ⟨w0, hw0⟩
    have hbd : ∀ w, Win (gs.map symI) w → 0 ≤ totW w t.parts ∧ totW w t.parts ≤ 264241152 := fun w hw => by
      obtain ⟨_, b1, b2⟩ := totW_bd (w := w) hS.parts (fun p hp => by
        have := right_at (hS.parts p hp)
        exact (hS.syms _ (nth_mem (by omega))).mem (hw.2 _ (by omega)))
      omega
    have hin := inSym_spec ((v2 _).2 ⟨w0, hw0, rfl⟩) (fun v hv => by
      obtain ⟨w, hw, rfl⟩ := (v2 v).1 hv
      have := hbd w hw
      omega)
    have hin2 : inSym (valsL t (gs.map symI)) = true ↔ ∀ w, Win (gs.map symI) w → (valueT t w).isSome = true := by
      rw [hin]
      constructor
      · intro h w hw
        rw [value_win hS hn hw, if_pos (h _ ((v2 _).2 ⟨w, hw, rfl⟩))]
        rfl
      · intro h v hv
        obtain ⟨w, hw, rfl⟩ := (v2 v).1 hv
        have := h w hw
        rw [value_win hS hn hw] at this
        split at this
        · assumption
        · cases this
    have hne : (valsL t (gs.map symI)).length ≠ 0 := fun h => not_nil ((v2 _).2 ⟨w0, hw0, rfl⟩) (List.eq_nil_of_length_eq_zero h)
    cases hi : inSym (valsL t (gs.map symI))
    · have e : imageV t gs = ([], false) := by rw [imageV, hI]; simp [hi]
      rw [e]
      rw [hi] at hin2
      exact ⟨hin2, fun _ => rfl, fun h => by cases h⟩
    · have e : imageV t gs = (moveL (imgL t.outer (valsL t (gs.map symI))) t.base, true) := by
        rw [imageV, hI]
        simp [hi, hne]
      rw [e]
      rw [hi] at hin2
      refine ⟨hin2, fun h => (by cases h), fun _ => ⟨?_, fun v => ?_⟩⟩
      · unfold moveL
        split
        · exact ⟨by simp, by simp⟩
        · exact (normI_plain _).1
      · obtain ⟨_, i2⟩ := img_spec (valsL t (gs.map symI)) ho
        rw [move_mem (by omega), i2]
        constructor
        · rintro ⟨⟨⟨x, h1, h2, h3⟩, _⟩, _⟩
          obtain ⟨w, hw, rfl⟩ := (v2 x).1 h1
          have hv := hin.1 hi _ h1
          exact ⟨w, hw, by rw [value_win hS hn hw, if_pos hv, h3]; congr 1; omega⟩
        · rintro ⟨w, hw, h⟩
          have hm := (v2 _).2 ⟨w, hw, rfl⟩
          have hv := hin.1 hi _ hm
          rw [value_win hS hn hw, if_pos hv] at h
          have hvs := valP_small ho (x := t.sum + totW w t.parts) (by omega)
          simp only [Option.some.injEq] at h
          exact ⟨⟨⟨_, hm, by omega, by omega⟩, by omega⟩, by omega⟩
end Go.Proofs.Ytdjbcenfgceejaa
set_option linter.unusedSimpArgs false
set_option linter.unusedVariables false
namespace Go.Proofs.Ytdjbcenfgceejaa
open Abs
def inDom (s x : Int) : Bool := decide ((s = 1 ∧ 0 ≤ x ∧ x < 256) ∨ (s = 2 ∧ 0 ≤ x ∧ x < 1114112 ∧ (x < 55296 ∨ 57344 ≤ x)))
theorem ref02_In (s x : Int) (hx : -2147483648 ≤ x ∧ x ≤ 2147483647) : PC Try.prog 73 [.int .i64 s, .int .i32 x] (.bool (inDom s x)) := by
  refine pc_w' c_ref02_In ?_
  unfold B_ref02_In
  (repeat' (first | (simp (disch := omega) only [push_cast, ↓zz, seval]) | (with_reducible refine And.intro ?_ ?_) | (with_reducible refine condW_split ?_ ?_ <;> intro hc <;> (try simp only [push_cast] at hc)) | (with_reducible refine guardW_split ?_ ?_ <;> intro hc <;> (try simp only [push_cast] at hc)) | omega | (with_reducible intro _)))
  all_goals
    rw [inDom]
    first
      | (rw [← decide_not, decide_eq_decide]; omega)
      | (rw [decide_eq_decide]; omega)
      | (rw [eq_comm, decide_eq_false_iff_not]; omega)
      | (rw [eq_comm, decide_eq_true_eq]; omega)
  all_goals trace_state
def winsF (bound : Int) (n : Int) (g : List Span) : Int := min (n * min (cntI (symI g)) (bound + 1)) (bound + 1)
def winsN (gs : List (List Span)) (bound : Int) : Int := gs.foldl (winsF bound) 1
theorem ref04_Windows (gs : List (List Span)) (b : Int) (hb : 0 ≤ b ∧ b ≤ 1048576) (hl : gs.length ≤ 9223372036854775807) (hg : ∀ g ∈ gs, g.length ≤ 1000000000) :
    PC Try.prog 34 [guardsV gs, .int .i64 b] (.int .i64 (winsN gs b)) := by
  have hP := pure_guards gs
  refine pc_w' c_ref04_Windows ?_
  unfold B_ref04_Windows
  (repeat' (first | (simp (disch := omega) only [push_cast, ↓zz, seval]) | (with_reducible refine And.intro ?_ ?_) | (with_reducible refine condW_split ?_ ?_ <;> intro hc <;> (try simp only [push_cast] at hc)) | (with_reducible refine guardW_split ?_ ?_ <;> intro hc <;> (try simp only [push_cast] at hc)) | omega | (with_reducible intro _)))
  refine LoopK_T (T_loopR (fun (s : Nat × Int) => s.1 ≤ gs.length ∧ winsN gs b = (gs.drop s.1).foldl (winsF b) s.2 ∧ 0 ≤ s.2 ∧ s.2 ≤ b + 1) (fun s => gs.length - s.1)
    (fun s => [(0, guardsV gs), (1, .int .i64 b), (5, .int .i64 s.2), (6, .int .i64 s.1)]) (fun s => []) (fun _ _ => []) (0, 1) ⟨by simp, rfl, by simp, by simp; omega⟩ ?_ ?_)
  · (repeat' (first | (simp (disch := omega) only [push_cast, ↓zz, seval, hP]) | (with_reducible refine And.intro ?_ ?_) | (with_reducible refine condW_split ?_ ?_ <;> intro hc <;> (try simp only [push_cast] at hc)) | (with_reducible refine guardW_split ?_ ?_ <;> intro hc <;> (try simp only [push_cast] at hc)) | omega | (with_reducible intro _)))
  rintro ⟨k, n⟩ ⟨h1, h2, h3, h4⟩
  simp only at h1 h2 h3 h4
  rcases Nat.lt_or_ge k gs.length with hk | hk
  · have hgl := hg _ (nth_mem hk)
    rw [drop_at hk, List.foldl_cons, winsF] at h2
    have hS := ref04_Symbols (nth gs k) (by omega)
    have hsl := (symI_syms (nth gs k)).len
    have hC := ref01_Count (symI (nth gs k)) (by omega)
    rw [sym_norm] at hC
    have hcn := (cnt_bounds (l := symI (nth gs k)) (fun s hs => by have := (symI_syms (nth gs k)).2 s hs; omega)).1
    generalize cntI (symI (nth gs k)) = c at *
    have hw : IntKind.i64.wrap (n * min c (b + 1)) = n * min c (b + 1) := by
      have e1 : 0 ≤ n * min c (b + 1) := Int.mul_nonneg h3 (by omega)
      have e2 : n * min c (b + 1) ≤ 1048577 * 1048577 := Int.le_trans (Int.mul_le_mul_of_nonneg_right (by omega) (by omega)) (Int.mul_le_mul_of_nonneg_left (by omega) (by omega))
      exact IntWalk.i64_in _ (by omega)
    have hn0 : 0 ≤ n * min c (b + 1) := Int.mul_nonneg h3 (by omega)
    refine W_T ?_
    (repeat' (first | (simp (disch := omega) only [push_cast, ↓zz, seval, hP, hw]) | (with_reducible refine And.intro ?_ ?_) | (with_reducible refine condW_split ?_ ?_ <;> intro hc <;> (try simp only [push_cast] at hc)) | (with_reducible refine guardW_split ?_ ?_ <;> intro hc <;> (try simp only [push_cast] at hc)) | ((with_reducible first | refine eK hS ?_ | refine eQ hS ?_ | refine eG hS ?_)) | ((with_reducible first | refine eK hC ?_ | refine eQ hC ?_ | refine eG hC ?_)) | ((with_reducible first | refine cK hS ?_ | refine cQ hS ?_ | refine cG hS ?_); (simp (disch := omega) only [push_cast, ↓zz, seval, hP, hw]); (fail_if_success (with_reducible change False))) | ((with_reducible first | refine cK hC ?_ | refine cQ hC ?_ | refine cG hC ?_); (simp (disch := omega) only [push_cast, ↓zz, seval, hP, hw]); (fail_if_success (with_reducible change False))) | omega | (with_reducible intro _)))
    all_goals exact ⟨(k + 1, min (n * min c (b + 1)) (b + 1)), ⟨rfl, by push_cast⟩, ⟨by simp only; omega, h2, by simp only; omega, by simp only; omega⟩, by simp only; omega⟩
  · rw [List.drop_of_length_le hk, List.foldl_nil] at h2
    refine W_T ?_
    (repeat' (first | (simp (disch := omega) only [push_cast, ↓zz, seval, hP, h2]) | (with_reducible refine And.intro ?_ ?_) | (with_reducible refine condW_split ?_ ?_ <;> intro hc <;> (try simp only [push_cast] at hc)) | (with_reducible refine guardW_split ?_ ?_ <;> intro hc <;> (try simp only [push_cast] at hc)) | omega | (with_reducible intro _)))
theorem ref04_Plains (gs : List (List Span)) (hl : gs.length ≤ 1000000) (hg : ∀ g ∈ gs, g.length ≤ 1000000000) : PC Try.prog 71 [guardsV gs] (guardsV (gs.map symI)) := by
  have hP := pure_guards gs
  refine pc_w' c_ref04_Plains ?_
  unfold B_ref04_Plains
  (repeat' (first | (simp (disch := omega) only [push_cast, ↓zz, seval]) | (with_reducible refine And.intro ?_ ?_) | (with_reducible refine condW_split ?_ ?_ <;> intro hc <;> (try simp only [push_cast] at hc)) | (with_reducible refine guardW_split ?_ ?_ <;> intro hc <;> (try simp only [push_cast] at hc)) | omega | (with_reducible intro _)))
  refine LoopK_T (T_loopR (fun (k : Nat) => k ≤ gs.length) (fun k => gs.length - k)
    (fun k => [(0, guardsV gs), (3, .ref 0 1 0 k), (4, .int .i64 k)]) (fun k => [⟨1, 1, false, ((gs.take k).map symI).map spansV⟩]) (fun env _ => [srcOf 1 (env 3)]) 0 (by simp) ?_ ?_)
  · (repeat' (first | (simp (disch := omega) only [push_cast, ↓zz, seval, hP]) | (with_reducible refine And.intro ?_ ?_) | (with_reducible refine condW_split ?_ ?_ <;> intro hc <;> (try simp only [push_cast] at hc)) | (with_reducible refine guardW_split ?_ ?_ <;> intro hc <;> (try simp only [push_cast] at hc)) | omega | (with_reducible intro _)))
  intro k hk
  have hpk := pure_guards ((gs.take k).map symI)
  have hlk : ((gs.take k).map symI).length = k := by simp; omega
  rcases Nat.lt_or_ge k gs.length with hkl | hkl
  · have hS := ref04_Symbols (nth gs k) (by have := hg _ (nth_mem hkl); omega)
    have e1 : ((gs.take (k + 1)).map symI).map spansV = ((gs.take k).map symI).map spansV ++ [spansV (symI (nth gs k))] := by rw [take_at hkl]; simp
    have hlm : (((gs.take k).map symI).map spansV).length = k := by simp; omega
    generalize hgl : ((gs.take k).map symI).map spansV = L at *
    refine W_T ?_
    (repeat' (first | (simp (disch := omega) only [push_cast, ↓zz, seval, hP, hpk, hlm]) | (with_reducible refine And.intro ?_ ?_) | (with_reducible refine condW_split ?_ ?_ <;> intro hc <;> (try simp only [push_cast] at hc)) | (with_reducible refine guardW_split ?_ ?_ <;> intro hc <;> (try simp only [push_cast] at hc)) | ((with_reducible first | refine eK hS ?_ | refine eQ hS ?_ | refine eG hS ?_)) | ((with_reducible first | refine cK hS ?_ | refine cQ hS ?_ | refine cG hS ?_); (simp (disch := omega) only [push_cast, ↓zz, seval, hP, hpk, hlm]); (fail_if_success (with_reducible change False))) | omega | (with_reducible intro _)))
    all_goals
      refine ⟨k + 1, ?_⟩
      (repeat' (first | (simp (disch := omega) only [push_cast, ↓zz, seval, e1]) | (with_reducible refine And.intro ?_ ?_) | (with_reducible refine condW_split ?_ ?_ <;> intro hc <;> (try simp only [push_cast] at hc)) | (with_reducible refine guardW_split ?_ ?_ <;> intro hc <;> (try simp only [push_cast] at hc)) | omega | (with_reducible intro _)))
  · obtain rfl : k = gs.length := by omega
    have et : List.take gs.length (gs.map symI) = gs.map symI := List.take_of_length_le (by simp)
    rw [List.take_length] at hpk hlk ⊢
    refine W_T ?_
    (repeat' (first | (simp (disch := omega) only [push_cast, ↓zz, seval, hP, hpk, hlk, et]) | (with_reducible refine And.intro ?_ ?_) | (with_reducible refine condW_split ?_ ?_ <;> intro hc <;> (try simp only [push_cast] at hc)) | (with_reducible refine guardW_split ?_ ?_ <;> intro hc <;> (try simp only [push_cast] at hc)) | omega | (with_reducible intro _)))
def digF (g : List Span) (s : Int × List Int) : Int × List Int := (s.1 / cntI g, (nthI g (s.1 % cntI g)).getD 0 :: s.2)
def sufP (gs : List (List Span)) (k : Int) (j : Nat) : Int × List Int := (gs.drop (gs.length - j)).foldr digF (k, [])
def winL (gs : List (List Span)) (k : Int) : List Int := (gs.foldr digF (k, [])).2
theorem sufP_step {gs : List (List Span)} {k : Int} {j : Nat} (h : j < gs.length) : sufP gs k (j + 1) = digF (nth gs (gs.length - (j + 1))) (sufP gs k j) := by
  rw [sufP, drop_at (by omega), List.foldr_cons, sufP, show gs.length - (j + 1) + 1 = gs.length - j by omega]
theorem sufP_len {gs : List (List Span)} {k : Int} : ∀ {j : Nat}, j ≤ gs.length → (sufP gs k j).2.length = j
  | 0, _ => by simp [sufP]
  | j + 1, h => by rw [sufP_step (by omega), digF]; simp [sufP_len (gs := gs) (k := k) (j := j) (by omega)]
theorem nthI_mem : ∀ {l : List Span} {i : Int}, (∀ s ∈ l, s.lo ≤ s.hi) → 0 ≤ i ∧ i < cntI l → ∃ x, nthI l i = some x ∧ memL l x
  | [], i, _, h => by simp only [cntI] at h; omega
  | s :: l, i, hs, h => by
    simp only [cntI] at h
    rw [nthI, if_neg (by omega)]
    have := hs s (by simp)
    split
    · exact ⟨_, rfl, memL_cons.2 (.inl (by omega))⟩
    · obtain ⟨x, h1, h2⟩ := nthI_mem (l := l) (i := i - (s.hi - s.lo + 1)) (fun t ht => hs t (by simp [ht])) (by omega)
      exact ⟨x, h1, memL_cons.2 (.inr h2)⟩
def zsW (n : Nat) (s : List Int) : List Int := List.replicate n 0 ++ s
theorem zsW_set {n : Nat} {s : List Int} {x : Int} : ((zsW (n + 1) s).map (AV.int .i32)).set n (.int .i32 x) = (zsW n (x :: s)).map (AV.int .i32) := by
  have e : zsW (n + 1) s = List.replicate n 0 ++ (0 :: s) := by simp [zsW, List.replicate_succ']
  rw [e, zsW, List.map_append, List.set_append_right _ _ (by simp)]
  simp
theorem zsW_len (n : Nat) (s : List Int) : (zsW n s).length = n + s.length := by simp [zsW]
theorem ref04_Window (gs : List (List Span)) (k : Int) (hk : 0 ≤ k ∧ k ≤ 1000000000000) (hl : gs.length ≤ 1000000) (hg : ∀ g ∈ gs, Syms g ∧ 0 < cntI g) :
    PC Try.prog 72 [guardsV gs, .int .i64 k] (runesV (winL gs k)) := by
  have hP := pure_guards gs
  refine pc_w' c_ref04_Window ?_
  unfold B_ref04_Window
  (repeat' (first | (simp (disch := omega) only [push_cast, ↓zz, seval]) | (with_reducible refine And.intro ?_ ?_) | (with_reducible refine condW_split ?_ ?_ <;> intro hc <;> (try simp only [push_cast] at hc)) | (with_reducible refine guardW_split ?_ ?_ <;> intro hc <;> (try simp only [push_cast] at hc)) | omega | (with_reducible intro _)))
  refine LoopK_T (T_loopR (fun (j : Nat) => j ≤ gs.length ∧ 0 ≤ (sufP gs k j).1 ∧ (sufP gs k j).1 ≤ 1000000000000) (fun j => gs.length - j)
    (fun j => [(0, guardsV gs), (1, .int .i64 (sufP gs k j).1), (5, .ref 0 1 0 gs.length), (6, .int .i64 ((gs.length : Int) - 1 - j))]) (fun j => [⟨1, 1, true, (zsW (gs.length - j) (sufP gs k j).2).map (AV.int .i32)⟩]) (fun env _ => [srcOf 1 (env 5)]) 0 (by simp [sufP]; omega) ?_ ?_)
  · have e0 : sufP gs k 0 = (k, []) := by simp [sufP]
    have e1 : List.replicate gs.length (AV.int .i32 0) = (zsW gs.length []).map (AV.int .i32) := by simp [zsW]
    (repeat' (first | (simp (disch := omega) only [push_cast, ↓zz, seval, hP, e0, e1, Nat.sub_zero]) | (with_reducible refine And.intro ?_ ?_) | (with_reducible refine condW_split ?_ ?_ <;> intro hc <;> (try simp only [push_cast] at hc)) | (with_reducible refine guardW_split ?_ ?_ <;> intro hc <;> (try simp only [push_cast] at hc)) | omega | (with_reducible intro _)))
  rintro j ⟨h1, h2, h3⟩
  have hsl := sufP_len (k := k) h1
  rcases Nat.lt_or_ge j gs.length with hj | hj
  · have hst := sufP_step (k := k) hj
    have hm := hg _ (nth_mem (l := gs) (i := gs.length - (j + 1)) (by omega))
    have hix : (gs.length : Int) - 1 - j = ((gs.length - (j + 1) : Nat) : Int) := by omega
    have hz : gs.length - j = gs.length - (j + 1) + 1 := by omega
    have hlt : gs.length - (j + 1) < gs.length := by omega
    rw [hix, hz]
    rw [digF] at hst
    generalize hxe : gs.length - (j + 1) = i at *
    have hC := ref01_Count (nth gs i) (by have := hm.1.len; omega)
    rw [syms_norm hm.1] at hC
    have hcb := cnt_bounds (l := nth gs i) (fun s hs => by have := hm.1.2 s hs; omega)
    have hln := hm.1.len
    have hq1 := Int.emod_nonneg (sufP gs k j).1 (show cntI (nth gs i) ≠ 0 by omega)
    have hq2 := Int.emod_lt_of_pos (sufP gs k j).1 hm.2
    have hN := ref01_Nth (nth gs i) ((sufP gs k j).1 % cntI (nth gs i)) (fun s hs => by have := hm.1.2 s hs; omega) (by omega) (by omega)
    obtain ⟨x, hx, hxm⟩ := nthI_mem (l := nth gs i) hm.1.1.1 ⟨hq1, hq2⟩
    have hxb := hm.1.mem hxm
    rw [hx] at hN hst
    have hdv := Int.ediv_nonneg h2 (show 0 ≤ cntI (nth gs i) by omega)
    have hdl := Int.ediv_le_self (cntI (nth gs i)) h2
    have ht1 : (sufP gs k j).1.tmod (cntI (nth gs i)) = (sufP gs k j).1 % cntI (nth gs i) := Int.tmod_eq_emod_of_nonneg h2
    have ht2 : (sufP gs k j).1.tdiv (cntI (nth gs i)) = (sufP gs k j).1 / cntI (nth gs i) := Int.tdiv_eq_ediv_of_nonneg h2
    have hw1 : IntKind.i64.wrap ((sufP gs k j).1 % cntI (nth gs i)) = (sufP gs k j).1 % cntI (nth gs i) := IntWalk.i64_in _ (by omega)
    have hw2 : IntKind.i64.wrap ((sufP gs k j).1 / cntI (nth gs i)) = (sufP gs k j).1 / cntI (nth gs i) := IntWalk.i64_in _ (by omega)
    have hw3 : IntKind.i32.wrap x = x := IntWalk.i32_in _ (by omega)
    have hcp := hm.2
    have hset := zsW_set (n := i) (s := (sufP gs k j).2) (x := x)
    have hzl := zsW_len (i + 1) (sufP gs k j).2
    refine W_T ?_
    (repeat' (first | (simp (disch := omega) only [push_cast, ↓zz, seval, hP, ht1, ht2, hw1, hw2, hw3, hset, hzl, hsl]) | (with_reducible refine And.intro ?_ ?_) | (with_reducible refine condW_split ?_ ?_ <;> intro hc <;> (try simp only [push_cast] at hc)) | (with_reducible refine guardW_split ?_ ?_ <;> intro hc <;> (try simp only [push_cast] at hc)) | ((with_reducible first | refine eK hC ?_ | refine eQ hC ?_ | refine eG hC ?_)) | ((with_reducible first | refine eK hN ?_ | refine eQ hN ?_ | refine eG hN ?_)) | ((with_reducible first | refine cK hC ?_ | refine cQ hC ?_ | refine cG hC ?_); (simp (disch := omega) only [push_cast, ↓zz, seval, hP, ht1, ht2, hw1, hw2, hw3, hset, hzl, hsl]); (fail_if_success (with_reducible change False))) | ((with_reducible first | refine cK hN ?_ | refine cQ hN ?_ | refine cG hN ?_); (simp (disch := omega) only [push_cast, ↓zz, seval, hP, ht1, ht2, hw1, hw2, hw3, hset, hzl, hsl]); (fail_if_success (with_reducible change False))) | omega | (with_reducible intro _)))
    all_goals
      refine ⟨j + 1, ?_⟩
      (repeat' (first | (simp (disch := omega) only [push_cast, ↓zz, seval, hst, hxe, Option.getD_some]) | (with_reducible refine And.intro ?_ ?_) | (with_reducible refine condW_split ?_ ?_ <;> intro hc <;> (try simp only [push_cast] at hc)) | (with_reducible refine guardW_split ?_ ?_ <;> intro hc <;> (try simp only [push_cast] at hc)) | omega | (with_reducible intro _)))
  · obtain rfl : j = gs.length := by omega
    have e : (sufP gs k gs.length).2 = winL gs k := by simp [sufP, winL]
    rw [e] at hsl
    rw [e, Nat.sub_self]
    have ez : zsW 0 (winL gs k) = winL gs k := rfl
    rw [ez]
    have et : List.take gs.length (winL gs k) = winL gs k := List.take_of_length_le (by omega)
    refine W_T ?_
    (repeat' (first | (simp (disch := omega) only [push_cast, ↓zz, seval, hP, hsl, et]) | (with_reducible refine And.intro ?_ ?_) | (with_reducible refine condW_split ?_ ?_ <;> intro hc <;> (try simp only [push_cast] at hc)) | (with_reducible refine guardW_split ?_ ?_ <;> intro hc <;> (try simp only [push_cast] at hc)) | omega | (with_reducible intro _)))
end Go.Proofs.Ytdjbcenfgceejaa
set_option linter.unusedSimpArgs false
set_option linter.unusedVariables false
namespace Go.Proofs.Ytdjbcenfgceejaa
open Abs
def winV (t : Term) (l : List (List Span)) (k : Nat) : Int := (valueT t (winL l k)).getD 0
def outF (t : Term) (l : List (List Span)) (out : List Span) (k : Nat) : List Span := if hasI out (winV t l k) then out else out ++ [oneS (winV t l k)]
def outK (t : Term) (l : List (List Span)) (n : Nat) : List Span := (List.range n).foldl (outF t l) []
def okW (t : Term) (l : List (List Span)) (n : Nat) : Bool := (List.range n).all fun k => (valueT t (winL l k)).isSome
theorem outK_succ (t : Term) (l : List (List Span)) (n : Nat) : outK t l (n + 1) = outF t l (outK t l n) n := by simp [outK, List.range_succ]
theorem okW_succ (t : Term) (l : List (List Span)) (n : Nat) : okW t l (n + 1) = (okW t l n && (valueT t (winL l n)).isSome) := by simp [okW, List.range_succ]
theorem okW_no {t : Term} {l : List (List Span)} {k n : Nat} (h : k < n) (hv : (valueT t (winL l k)).isSome = false) : okW t l n = false := by
  rw [okW, List.all_eq_false]
  exact ⟨k, by simpa using h, by simp [hv]⟩
theorem outF_len (t : Term) (l : List (List Span)) (out : List Span) (k : Nat) : (outF t l out k).length ≤ out.length + 1 := by
  unfold outF; split <;> simp
theorem outK_len (t : Term) (l : List (List Span)) : ∀ n, (outK t l n).length ≤ n
  | 0 => by simp [outK]
  | n + 1 => by
    rw [outK_succ]
    have h1 := outK_len t l n
    have h2 := outF_len t l (outK t l n) n
    omega
def cntW (l : List (List Span)) : Nat := (winsN l 1048576).toNat
def refImg (t : Term) (gs : List (List Span)) : List Span × Bool :=
  if 4 < gs.length ∨ numbersB t = false then ([], false) else if prtB t gs.length = false then ([], false) else
    if okW t (gs.map symI) (cntW (gs.map symI)) then (normI (outK t (gs.map symI) (cntW (gs.map symI))), true) else ([], false)
theorem wins_bd {b : Int} (hb : 0 ≤ b) : ∀ (gs : List (List Span)) (n : Int), 0 ≤ n ∧ n ≤ b + 1 → 0 ≤ gs.foldl (winsF b) n ∧ gs.foldl (winsF b) n ≤ b + 1
  | [], n, h => h
  | g :: gs, n, h => by
    have hc := (cnt_bounds (l := symI g) (fun s hs => by have := (symI_syms g).2 s hs; omega)).1
    have : 0 ≤ n * min (cntI (symI g)) (b + 1) := Int.mul_nonneg h.1 (by omega)
    exact wins_bd hb gs (winsF b n g) (by simp only [winsF]; omega)
theorem wins_zero {b : Int} (hb : 0 ≤ b) : ∀ (gs : List (List Span)) (n : Int), 0 ≤ n ∧ n ≤ b + 1 → 0 < gs.foldl (winsF b) n → 0 < n ∧ ∀ g ∈ gs, 0 < cntI (symI g)
  | [], n, h, hp => ⟨hp, by simp⟩
  | g :: gs, n, h, hp => by
    have hc := (cnt_bounds (l := symI g) (fun s hs => by have := (symI_syms g).2 s hs; omega)).1
    have h0 : 0 ≤ n * min (cntI (symI g)) (b + 1) := Int.mul_nonneg h.1 (by omega)
    obtain ⟨i1, i2⟩ := wins_zero hb gs (winsF b n g) (by simp only [winsF]; omega) hp
    have hnz : n * min (cntI (symI g)) (b + 1) ≠ 0 := by simp only [winsF] at i1; omega
    have h1 : n ≠ 0 := fun e => hnz (by rw [e]; simp)
    have h2 : min (cntI (symI g)) (b + 1) ≠ 0 := fun e => hnz (by rw [e]; simp)
    refine ⟨by omega, fun g' hg' => ?_⟩
    rcases List.mem_cons.1 hg' with rfl | hg'
    · omega
    · exact i2 g' hg'
theorem cntW_pos {gs : List (List Span)} {k : Nat} (h : k < cntW (gs.map symI)) : ∀ g ∈ gs.map symI, Syms g ∧ 0 < cntI g := fun g hg => by
  obtain ⟨g0, h0, rfl⟩ := List.mem_map.1 hg
  have h1 : 0 < winsN (gs.map symI) 1048576 := by simp only [cntW] at h; omega
  have h2 := (wins_zero (b := 1048576) (by omega) (gs.map symI) 1 (by omega) h1).2 _ hg
  rw [sym_sym] at h2
  exact ⟨symI_syms g0, h2⟩
theorem win_sym {gs : List (List Span)} (hg : ∀ g ∈ gs, Syms g ∧ 0 < cntI g) (k : Int) (hk : 0 ≤ k) : (winL gs k).length = gs.length ∧ ∀ x ∈ winL gs k, 0 ≤ x ∧ x ≤ 1114111 := by
  have key : ∀ (l : List (List Span)), (∀ g ∈ l, Syms g ∧ 0 < cntI g) → 0 ≤ (l.foldr digF (k, [])).1 ∧ (l.foldr digF (k, [])).2.length = l.length ∧ ∀ x ∈ (l.foldr digF (k, [])).2, 0 ≤ x ∧ x ≤ 1114111 := fun l => by
    induction l with
    | nil => exact fun _ => ⟨hk, rfl, by simp⟩
    | cons g l ih =>
      intro h
      obtain ⟨i1, i2, i3⟩ := ih fun g hg => h g (by simp [hg])
      have hm := h g (by simp)
      rw [List.foldr_cons]
      generalize l.foldr digF (k, []) = s at *
      have hq1 := Int.emod_nonneg s.1 (show cntI g ≠ 0 by omega)
      have hq2 := Int.emod_lt_of_pos s.1 hm.2
      obtain ⟨x, hx, hxm⟩ := nthI_mem (l := g) hm.1.1.1 ⟨hq1, hq2⟩
      refine ⟨Int.ediv_nonneg i1 (by omega), by simp [digF, i2], fun y hy => ?_⟩
      rcases List.mem_cons.1 hy with rfl | hy
      · rw [hx]; exact hm.1.mem hxm
      · exact i3 y hy
  exact (key gs hg).2
theorem ref04_Image (t : Term) (gs : List (List Span)) (ht : t.parts.length < 1000000000000) (hg : ∀ g ∈ gs, g.length ≤ 1000000) (hl : gs.length ≤ 9223372036854775807) :
    PC Try.prog 36 [termV t, guardsV gs] (.tup [spansV (refImg t gs).1, .bool (refImg t gs).2]) := by
  have hP := pure_guards gs
  have hN := ref_Numbers t ht
  refine pc_w' c_ref04_Image ?_
  unfold B_ref04_Image
  by_cases h1 : 4 < gs.length ∨ numbersB t = false
  · rw [refImg, if_pos h1]
    (repeat' (first | (simp (disch := omega) only [push_cast, ↓zz, seval]) | (with_reducible refine And.intro ?_ ?_) | (with_reducible refine condW_split ?_ ?_ <;> intro hc <;> (try simp only [push_cast] at hc)) | (with_reducible refine guardW_split ?_ ?_ <;> intro hc <;> (try simp only [push_cast] at hc)) | ((with_reducible first | refine eK hN ?_ | refine eQ hN ?_ | refine eG hN ?_)) | ((with_reducible first | refine cK hN ?_ | refine cQ hN ?_ | refine cG hN ?_); (simp (disch := omega) only [push_cast, ↓zz, seval]); (fail_if_success (with_reducible change False))) | omega | (with_reducible intro _)))
    all_goals first
      | ((repeat' (first | (simp (disch := omega) only [push_cast, ↓zz, seval, an_tup]) | omega | (with_reducible refine And.intro ?_ ?_))); done)
      | (exfalso; rcases h1 with h1 | h1 <;> first | omega | simp_all)
  have h4 : gs.length ≤ 4 := by omega
  have hn : numbersB t = true := by simpa using (not_or.1 h1).2
  (repeat' (first | (simp (disch := omega) only [push_cast, ↓zz, seval, hn]) | (with_reducible refine And.intro ?_ ?_) | (with_reducible refine condW_split ?_ ?_ <;> intro hc <;> (try simp only [push_cast] at hc)) | (with_reducible refine guardW_split ?_ ?_ <;> intro hc <;> (try simp only [push_cast] at hc)) | ((with_reducible first | refine eK hN ?_ | refine eQ hN ?_ | refine eG hN ?_)) | ((with_reducible first | refine cK hN ?_ | refine cQ hN ?_ | refine cG hN ?_); (simp (disch := omega) only [push_cast, ↓zz, seval, hn]); (fail_if_success (with_reducible change False))) | omega | (with_reducible intro _)))
  refine LoopK_T (T_loopR (fun (k : Nat) => k ≤ t.parts.length ∧ prtB t gs.length = (t.parts.drop k).all fun p => rightB p gs.length) (fun k => t.parts.length - k)
    (fun k => [(1, guardsV gs), (2, .ptr 0 1 0 0), (6, .int .i64 k)]) (fun k => [⟨6, 1, true, [termV t]⟩]) (fun env _ => [srcOf 1 (env 2)]) 0 ⟨by simp, rfl⟩ ?_ ?_)
  · (repeat' (first | (simp (disch := omega) only [push_cast, ↓zz, seval, hP]) | (with_reducible refine And.intro ?_ ?_) | (with_reducible refine condW_split ?_ ?_ <;> intro hc <;> (try simp only [push_cast] at hc)) | (with_reducible refine guardW_split ?_ ?_ <;> intro hc <;> (try simp only [push_cast] at hc)) | omega | (with_reducible intro _)))
  rintro k ⟨k1, k2⟩
  rcases Nat.lt_or_ge k t.parts.length with hkp | hkp
  · have hR := ref03_Right (nth t.parts k) gs.length
    rw [prt_at hkp] at k2
    refine W_T ?_
    (repeat' (first | (simp (disch := omega) only [push_cast, ↓zz, seval, hP]) | (with_reducible refine And.intro ?_ ?_) | (with_reducible refine condW_split ?_ ?_ <;> intro hc <;> (try simp only [push_cast] at hc)) | (with_reducible refine guardW_split ?_ ?_ <;> intro hc <;> (try simp only [push_cast] at hc)) | ((with_reducible first | refine eK hR ?_ | refine eQ hR ?_ | refine eG hR ?_)) | ((with_reducible first | refine cK hR ?_ | refine cQ hR ?_ | refine cG hR ?_); (simp (disch := omega) only [push_cast, ↓zz, seval, hP]); (fail_if_success (with_reducible change False))) | omega | (with_reducible intro _)))
    · have hp : prtB t gs.length = false := by rw [k2]; simp [*]
      rw [refImg, if_neg h1, if_pos hp]
      (repeat' (first | (simp (disch := omega) only [push_cast, ↓zz, seval, an_tup]) | omega | (with_reducible refine And.intro ?_ ?_)))
    · exact ⟨k + 1, by push_cast, ⟨by omega, by rw [k2]; simp [*]⟩, by omega⟩
  rw [List.drop_of_length_le hkp] at k2
  have hp : prtB t gs.length = true := k2
  have hI : refImg t gs = if okW t (gs.map symI) (cntW (gs.map symI)) then (normI (outK t (gs.map symI) (cntW (gs.map symI))), true) else ([], false) := by rw [refImg, if_neg h1, if_neg (by simp [hp])]
  have hPl := ref04_Plains gs (by omega) (fun g h => by have := hg g h; omega)
  have hWi := ref04_Windows (gs.map symI) 1048576 (by omega) (by simp; omega) (fun g h => by
    obtain ⟨g0, _, rfl⟩ := List.mem_map.1 h
    have := (symI_syms g0).len
    omega)
  have hpm := pure_guards (gs.map symI)
  have hwb := wins_bd (b := 1048576) (by omega) (gs.map symI) 1 (by omega)
  have hcw : winsN (gs.map symI) 1048576 = (cntW (gs.map symI) : Int) := by rw [cntW, winsN]; omega
  have hcb : cntW (gs.map symI) ≤ 1048577 := by rw [cntW, winsN]; omega
  refine W_T ?_
  (repeat' (first | (simp (disch := omega) only [push_cast, ↓zz, seval, hP, hpm, hcw]) | (with_reducible refine And.intro ?_ ?_) | (with_reducible refine condW_split ?_ ?_ <;> intro hc <;> (try simp only [push_cast] at hc)) | (with_reducible refine guardW_split ?_ ?_ <;> intro hc <;> (try simp only [push_cast] at hc)) | ((with_reducible first | refine eK hPl ?_ | refine eQ hPl ?_ | refine eG hPl ?_)) | ((with_reducible first | refine eK hWi ?_ | refine eQ hWi ?_ | refine eG hWi ?_)) | ((with_reducible first | refine cK hPl ?_ | refine cQ hPl ?_ | refine cG hPl ?_); (simp (disch := omega) only [push_cast, ↓zz, seval, hP, hpm, hcw]); (fail_if_success (with_reducible change False))) | ((with_reducible first | refine cK hWi ?_ | refine cQ hWi ?_ | refine cG hWi ?_); (simp (disch := omega) only [push_cast, ↓zz, seval, hP, hpm, hcw]); (fail_if_success (with_reducible change False))) | omega | (with_reducible intro _)))
  have hpos := @cntW_pos gs
  generalize hme : gs.map symI = m at *
  refine LoopK_T (T_loopR (fun (k : Nat) => k ≤ cntW m ∧ okW t m k = true) (fun k => cntW m - k)
    (fun k => [(2, .ptr 0 1 0 0), (7, guardsV m), (8, .int .i64 (cntW m)), (9, .ref 1 1 0 (outK t m k).length), (10, .int .i64 k)]) (fun k => [⟨6, 1, true, [termV t]⟩, ⟨2, 1, false, (outK t m k).map spanV⟩]) (fun env _ => [srcOf 1 (env 2), srcOf 2 (env 9)]) 0 ⟨by simp, rfl⟩ ?_ ?_)
  · have e0 : outK t m 0 = [] := rfl
    (repeat' (first | (simp (disch := omega) only [push_cast, ↓zz, seval, hpm, e0]) | (with_reducible refine And.intro ?_ ?_) | (with_reducible refine condW_split ?_ ?_ <;> intro hc <;> (try simp only [push_cast] at hc)) | (with_reducible refine guardW_split ?_ ?_ <;> intro hc <;> (try simp only [push_cast] at hc)) | omega | (with_reducible intro _)))
  rintro k ⟨k1, k3⟩
  have hol := outK_len t m k
  rcases Nat.lt_or_ge k (cntW m) with hk | hk
  · have hps := hpos hk
    obtain ⟨w1, w2⟩ := win_sym hps k (by omega)
    have hml : m.length = gs.length := by rw [← hme]; simp
    have hW := ref04_Window m k (by omega) (by omega) hps
    have hV := ref_Value t (winL m k) (by omega) (by omega) (fun x hx => by have := w2 x hx; omega)
    have hH := ref01_Has (outK t m k) ((valueT t (winL m k)).getD 0) (by omega)
    have hs1 := okW_succ t m k
    rw [k3, Bool.true_and] at hs1
    have hs2 := outK_succ t m k
    have hwp : pureL ((winL m k).map (AV.int .i32)) = true := pure_int .i32 _
    refine W_T ?_
    (repeat' (first | (simp (disch := omega) only [push_cast, ↓zz, seval, hpm]) | (with_reducible refine And.intro ?_ ?_) | (with_reducible refine condW_split ?_ ?_ <;> intro hc <;> (try simp only [push_cast] at hc)) | (with_reducible refine guardW_split ?_ ?_ <;> intro hc <;> (try simp only [push_cast] at hc)) | ((with_reducible first | refine eK hW ?_ | refine eQ hW ?_ | refine eG hW ?_)) | ((with_reducible first | refine eK hV ?_ | refine eQ hV ?_ | refine eG hV ?_)) | ((with_reducible first | refine eK hH ?_ | refine eQ hH ?_ | refine eG hH ?_)) | ((with_reducible first | refine cK hW ?_ | refine cQ hW ?_ | refine cG hW ?_); (simp (disch := omega) only [push_cast, ↓zz, seval, hpm]); (fail_if_success (with_reducible change False))) | ((with_reducible first | refine cK hV ?_ | refine cQ hV ?_ | refine cG hV ?_); (simp (disch := omega) only [push_cast, ↓zz, seval, hpm]); (fail_if_success (with_reducible change False))) | ((with_reducible first | refine cK hH ?_ | refine cQ hH ?_ | refine cG hH ?_); (simp (disch := omega) only [push_cast, ↓zz, seval, hpm]); (fail_if_success (with_reducible change False))) | omega | (with_reducible intro _)))
    all_goals first
      | (rw [hI, if_neg (by rw [okW_no (k := k) hk (by assumption)]; simp)]
         (repeat' (first | (simp (disch := omega) only [push_cast, ↓zz, seval, an_tup]) | omega | (with_reducible refine And.intro ?_ ?_)))
         done)
      | (refine ⟨k + 1, ?_⟩
         rw [outF, winV, if_neg (by simp [*])] at hs2
         (repeat' (first | (simp (disch := omega) only [push_cast, ↓zz, seval, hs2]) | (with_reducible refine And.intro ?_ ?_) | (with_reducible refine condW_split ?_ ?_ <;> intro hc <;> (try simp only [push_cast] at hc)) | (with_reducible refine guardW_split ?_ ?_ <;> intro hc <;> (try simp only [push_cast] at hc)) | omega | (with_reducible intro _)))
         exact hs1.trans (by assumption))
      | (refine ⟨k + 1, ?_⟩
         rw [outF, winV, if_pos (by assumption)] at hs2
         (repeat' (first | (simp (disch := omega) only [push_cast, ↓zz, seval, hs2]) | (with_reducible refine And.intro ?_ ?_) | (with_reducible refine condW_split ?_ ?_ <;> intro hc <;> (try simp only [push_cast] at hc)) | (with_reducible refine guardW_split ?_ ?_ <;> intro hc <;> (try simp only [push_cast] at hc)) | omega | (with_reducible intro _)))
         exact hs1.trans (by assumption))
  · obtain rfl : k = cntW m := by omega
    have hNo := ref01_Norm (outK t m (cntW m)) (by omega)
    rw [k3, if_pos rfl] at hI
    refine W_T ?_
    (repeat' (first | (simp (disch := omega) only [push_cast, ↓zz, seval, hpm, hI]) | (with_reducible refine And.intro ?_ ?_) | (with_reducible refine condW_split ?_ ?_ <;> intro hc <;> (try simp only [push_cast] at hc)) | (with_reducible refine guardW_split ?_ ?_ <;> intro hc <;> (try simp only [push_cast] at hc)) | ((with_reducible first | refine eK hNo ?_ | refine eQ hNo ?_ | refine eG hNo ?_)) | ((with_reducible first | refine cK hNo ?_ | refine cQ hNo ?_ | refine cG hNo ?_); (simp (disch := omega) only [push_cast, ↓zz, seval, hpm, hI]); (fail_if_success (with_reducible change False))) | omega | (with_reducible intro _)))
    all_goals trace_state
def fitW (t : Term) (o : Int) (w : List Int) : Bool := match valueT t w with
  | some v => decide (0 ≤ v ∧ v ≤ 1114111) && inDom o v
  | none => false
def okF (t : Term) (o : Int) (l : List (List Span)) (n : Nat) : Bool := (List.range n).all fun k => fitW t o (winL l k)
theorem okF_succ (t : Term) (o : Int) (l : List (List Span)) (n : Nat) : okF t o l (n + 1) = (okF t o l n && fitW t o (winL l n)) := by simp [okF, List.range_succ]
theorem okF_no {t : Term} {o : Int} {l : List (List Span)} {k n : Nat} (h : k < n) (hv : fitW t o (winL l k) = false) : okF t o l n = false := by
  rw [okF, List.all_eq_false]
  exact ⟨k, by simpa using h, by simp [hv]⟩
def refFits (t : Term) (i o : Int) (gs : List (List Span)) : Bool := rightT t i o gs.length && (decide (gs.length ≤ 4) && okF t o (gs.map symI) (cntW (gs.map symI)))
theorem ref04_Fits (t : Term) (i o : Int) (gs : List (List Span)) (ht : t.parts.length < 1000000000000) (hg : ∀ g ∈ gs, g.length ≤ 1000000) (hl : gs.length ≤ 9223372036854775807) :
    PC Try.prog 37 [termV t, .int .i64 i, .int .i64 o, guardsV gs] (.bool (refFits t i o gs)) := by
  have hP := pure_guards gs
  have hR := ref_Right t i o gs.length ht
  refine pc_w' c_ref04_Fits ?_
  unfold B_ref04_Fits
  by_cases h1 : rightT t i o gs.length = false
  · rw [refFits, h1]
    (repeat' (first | (simp (disch := omega) only [push_cast, ↓zz, seval, h1]) | (with_reducible refine And.intro ?_ ?_) | (with_reducible refine condW_split ?_ ?_ <;> intro hc <;> (try simp only [push_cast] at hc)) | (with_reducible refine guardW_split ?_ ?_ <;> intro hc <;> (try simp only [push_cast] at hc)) | ((with_reducible first | refine eK hR ?_ | refine eQ hR ?_ | refine eG hR ?_)) | ((with_reducible first | refine cK hR ?_ | refine cQ hR ?_ | refine cG hR ?_); (simp (disch := omega) only [push_cast, ↓zz, seval, h1]); (fail_if_success (with_reducible change False))) | omega | (with_reducible intro _)))
  have hr : rightT t i o gs.length = true := by simpa using h1
  by_cases h4 : 4 < gs.length
  · have e : refFits t i o gs = false := by rw [refFits, decide_eq_false (by omega : ¬ gs.length ≤ 4)]; simp
    rw [e]
    (repeat' (first | (simp (disch := omega) only [push_cast, ↓zz, seval, hr]) | (with_reducible refine And.intro ?_ ?_) | (with_reducible refine condW_split ?_ ?_ <;> intro hc <;> (try simp only [push_cast] at hc)) | (with_reducible refine guardW_split ?_ ?_ <;> intro hc <;> (try simp only [push_cast] at hc)) | ((with_reducible first | refine eK hR ?_ | refine eQ hR ?_ | refine eG hR ?_)) | ((with_reducible first | refine cK hR ?_ | refine cQ hR ?_ | refine cG hR ?_); (simp (disch := omega) only [push_cast, ↓zz, seval, hr]); (fail_if_success (with_reducible change False))) | omega | (with_reducible intro _)))
  have hI : refFits t i o gs = okF t o (gs.map symI) (cntW (gs.map symI)) := by rw [refFits, hr, decide_eq_true (by omega : gs.length ≤ 4)]; simp
  have hPl := ref04_Plains gs (by omega) (fun g h => by have := hg g h; omega)
  have hWi := ref04_Windows (gs.map symI) 1048576 (by omega) (by simp; omega) (fun g h => by
    obtain ⟨g0, _, rfl⟩ := List.mem_map.1 h
    have := (symI_syms g0).len
    omega)
  have hpm := pure_guards (gs.map symI)
  have hwb := wins_bd (b := 1048576) (by omega) (gs.map symI) 1 (by omega)
  have hcw : winsN (gs.map symI) 1048576 = (cntW (gs.map symI) : Int) := by rw [cntW, winsN]; omega
  have hcb : cntW (gs.map symI) ≤ 1048577 := by rw [cntW, winsN]; omega
  have hpos := @cntW_pos gs
  generalize hme : gs.map symI = m at *
  (repeat' (first | (simp (disch := omega) only [push_cast, ↓zz, seval, hP, hpm, hcw, hr]) | (with_reducible refine And.intro ?_ ?_) | (with_reducible refine condW_split ?_ ?_ <;> intro hc <;> (try simp only [push_cast] at hc)) | (with_reducible refine guardW_split ?_ ?_ <;> intro hc <;> (try simp only [push_cast] at hc)) | ((with_reducible first | refine eK hR ?_ | refine eQ hR ?_ | refine eG hR ?_)) | ((with_reducible first | refine eK hPl ?_ | refine eQ hPl ?_ | refine eG hPl ?_)) | ((with_reducible first | refine eK hWi ?_ | refine eQ hWi ?_ | refine eG hWi ?_)) | ((with_reducible first | refine cK hR ?_ | refine cQ hR ?_ | refine cG hR ?_); (simp (disch := omega) only [push_cast, ↓zz, seval, hP, hpm, hcw, hr]); (fail_if_success (with_reducible change False))) | ((with_reducible first | refine cK hPl ?_ | refine cQ hPl ?_ | refine cG hPl ?_); (simp (disch := omega) only [push_cast, ↓zz, seval, hP, hpm, hcw, hr]); (fail_if_success (with_reducible change False))) | ((with_reducible first | refine cK hWi ?_ | refine cQ hWi ?_ | refine cG hWi ?_); (simp (disch := omega) only [push_cast, ↓zz, seval, hP, hpm, hcw, hr]); (fail_if_success (with_reducible change False))) | omega | (with_reducible intro _)))
  refine LoopK_T (T_loopR (fun (k : Nat) => k ≤ cntW m ∧ okF t o m k = true) (fun k => cntW m - k)
    (fun k => [(2, .int .i64 o), (4, .ptr 0 1 0 0), (9, guardsV m), (10, .int .i64 (cntW m)), (11, .int .i64 k)]) (fun k => [⟨6, 1, true, [termV t]⟩]) (fun env _ => [srcOf 1 (env 4)]) 0 ⟨by simp, rfl⟩ ?_ ?_)
  · (repeat' (first | (simp (disch := omega) only [push_cast, ↓zz, seval, hpm]) | (with_reducible refine And.intro ?_ ?_) | (with_reducible refine condW_split ?_ ?_ <;> intro hc <;> (try simp only [push_cast] at hc)) | (with_reducible refine guardW_split ?_ ?_ <;> intro hc <;> (try simp only [push_cast] at hc)) | omega | (with_reducible intro _)))
  rintro k ⟨k1, k3⟩
  rcases Nat.lt_or_ge k (cntW m) with hk | hk
  · have hps := hpos hk
    obtain ⟨w1, w2⟩ := win_sym hps k (by omega)
    have hml : m.length = gs.length := by rw [← hme]; simp
    have hW := ref04_Window m k (by omega) (by omega) hps
    have hV := ref_Value t (winL m k) (by omega) (by omega) (fun x hx => by have := w2 x hx; omega)
    have hs1 := okF_succ t o m k
    rw [k3, Bool.true_and] at hs1
    have hno := @okF_no t o m k (cntW m) hk
    rw [← hI] at hno
    refine W_T ?_
    cases hv : valueT t (winL m k) with
    | none =>
      rw [hv] at hV
      have e := hno (by rw [fitW, hv])
      rw [e]
      (repeat' (first | (simp (disch := omega) only [push_cast, ↓zz, seval, hpm]) | (with_reducible refine And.intro ?_ ?_) | (with_reducible refine condW_split ?_ ?_ <;> intro hc <;> (try simp only [push_cast] at hc)) | (with_reducible refine guardW_split ?_ ?_ <;> intro hc <;> (try simp only [push_cast] at hc)) | ((with_reducible first | refine eK hW ?_ | refine eQ hW ?_ | refine eG hW ?_)) | ((with_reducible first | refine eK hV ?_ | refine eQ hV ?_ | refine eG hV ?_)) | ((with_reducible first | refine cK hW ?_ | refine cQ hW ?_ | refine cG hW ?_); (simp (disch := omega) only [push_cast, ↓zz, seval, hpm]); (fail_if_success (with_reducible change False))) | ((with_reducible first | refine cK hV ?_ | refine cQ hV ?_ | refine cG hV ?_); (simp (disch := omega) only [push_cast, ↓zz, seval, hpm]); (fail_if_success (with_reducible change False))) | omega | (with_reducible intro _)))
    | some v =>
      rw [hv] at hV
      have hf : fitW t o (winL m k) = (decide (0 ≤ v ∧ v ≤ 1114111) && inDom o v) := by rw [fitW, hv]
      rw [hf] at hs1 hno
      by_cases hb : 0 ≤ v ∧ v ≤ 1114111
      · have hw : IntKind.i32.wrap v = v := IntWalk.i32_in _ (by omega)
        have hIn := ref02_In o v (by omega)
        rw [decide_eq_true hb, Bool.true_and] at hs1 hno
        (repeat' (first | (simp (disch := omega) only [push_cast, ↓zz, seval, hpm, hw]) | (with_reducible refine And.intro ?_ ?_) | (with_reducible refine condW_split ?_ ?_ <;> intro hc <;> (try simp only [push_cast] at hc)) | (with_reducible refine guardW_split ?_ ?_ <;> intro hc <;> (try simp only [push_cast] at hc)) | ((with_reducible first | refine eK hW ?_ | refine eQ hW ?_ | refine eG hW ?_)) | ((with_reducible first | refine eK hV ?_ | refine eQ hV ?_ | refine eG hV ?_)) | ((with_reducible first | refine eK hIn ?_ | refine eQ hIn ?_ | refine eG hIn ?_)) | ((with_reducible first | refine cK hW ?_ | refine cQ hW ?_ | refine cG hW ?_); (simp (disch := omega) only [push_cast, ↓zz, seval, hpm, hw]); (fail_if_success (with_reducible change False))) | ((with_reducible first | refine cK hV ?_ | refine cQ hV ?_ | refine cG hV ?_); (simp (disch := omega) only [push_cast, ↓zz, seval, hpm, hw]); (fail_if_success (with_reducible change False))) | ((with_reducible first | refine cK hIn ?_ | refine cQ hIn ?_ | refine cG hIn ?_); (simp (disch := omega) only [push_cast, ↓zz, seval, hpm, hw]); (fail_if_success (with_reducible change False))) | omega | (with_reducible intro _)))
        all_goals first
          | exact (hno (by assumption)).symm
          | exact ⟨k + 1, by push_cast, ⟨by omega, hs1.trans (by assumption)⟩, by omega⟩
      · rw [decide_eq_false hb, Bool.false_and] at hs1 hno
        rw [hno rfl]
        (repeat' (first | (simp (disch := omega) only [push_cast, ↓zz, seval, hpm]) | (with_reducible refine And.intro ?_ ?_) | (with_reducible refine condW_split ?_ ?_ <;> intro hc <;> (try simp only [push_cast] at hc)) | (with_reducible refine guardW_split ?_ ?_ <;> intro hc <;> (try simp only [push_cast] at hc)) | ((with_reducible first | refine eK hW ?_ | refine eQ hW ?_ | refine eG hW ?_)) | ((with_reducible first | refine eK hV ?_ | refine eQ hV ?_ | refine eG hV ?_)) | ((with_reducible first | refine cK hW ?_ | refine cQ hW ?_ | refine cG hW ?_); (simp (disch := omega) only [push_cast, ↓zz, seval, hpm]); (fail_if_success (with_reducible change False))) | ((with_reducible first | refine cK hV ?_ | refine cQ hV ?_ | refine cG hV ?_); (simp (disch := omega) only [push_cast, ↓zz, seval, hpm]); (fail_if_success (with_reducible change False))) | omega | (with_reducible intro _)))
  · obtain rfl : k = cntW m := by omega
    rw [k3] at hI
    refine W_T ?_
    (repeat' (first | (simp (disch := omega) only [push_cast, ↓zz, seval, hpm, hI]) | (with_reducible refine And.intro ?_ ?_) | (with_reducible refine condW_split ?_ ?_ <;> intro hc <;> (try simp only [push_cast] at hc)) | (with_reducible refine guardW_split ?_ ?_ <;> intro hc <;> (try simp only [push_cast] at hc)) | omega | (with_reducible intro _)))
    all_goals trace_state
end Go.Proofs.Ytdjbcenfgceejaa
set_option linter.unusedSimpArgs false
set_option linter.unusedVariables false
namespace Go.Proofs.Ytdjbcenfgceejaa
open Abs
def prodC : List (List Span) → Int
  | [] => 1
  | g :: gs => cntI (symI g) * prodC gs
theorem cntS (g : List Span) : 0 ≤ cntI (symI g) := (cnt_bounds (l := symI g) (fun s hs => by have := (symI_syms g).2 s hs; omega)).1
theorem prodC_nn : ∀ gs, 0 ≤ prodC gs
  | [] => by simp [prodC]
  | g :: gs => Int.mul_nonneg (cntS g) (prodC_nn gs)
theorem min_mul {x p c : Int} (hx : 0 ≤ x) (hp : 0 ≤ p) (hc : 1 ≤ c) : min (min x c * p) c = min (x * p) c := by
  rcases Int.lt_or_le p 1 with h | h
  · have : p = 0 := by omega
    subst this; simp
  · rcases Int.lt_or_le c x with h2 | h2
    · rw [show min x c = c by omega]
      have e1 : c * 1 ≤ c * p := Int.mul_le_mul_of_nonneg_left h (by omega)
      have e2 : x * 1 ≤ x * p := Int.mul_le_mul_of_nonneg_left h (by omega)
      omega
    · rw [show min x c = x by omega]
theorem wins_eq {b : Int} (hb : 0 ≤ b) : ∀ (gs : List (List Span)) (n : Int), 0 ≤ n ∧ n ≤ b + 1 → gs.foldl (winsF b) n = min (n * prodC gs) (b + 1)
  | [], n, h => by simp only [List.foldl_nil, prodC]; omega
  | g :: gs, n, h => by
    have hc := cntS g
    have h0 : 0 ≤ n * min (cntI (symI g)) (b + 1) := Int.mul_nonneg h.1 (by omega)
    have h1 : 0 ≤ n * cntI (symI g) := Int.mul_nonneg h.1 hc
    have e : winsF b n g = min (n * cntI (symI g)) (b + 1) := by
      rw [winsF, Int.mul_comm n, min_mul hc h.1 (by omega), Int.mul_comm n]
    rw [List.foldl_cons, e, wins_eq hb gs _ (by omega), min_mul h1 (prodC_nn gs) (by omega), prodC, Int.mul_assoc]
theorem wins_prod (gs : List (List Span)) {b : Int} (hb : 0 ≤ b) : winsN gs b = min (prodC gs) (b + 1) := by
  rw [winsN, wins_eq hb gs 1 (by omega), Int.one_mul]
theorem prodC_sym : ∀ gs, prodC (gs.map symI) = prodC gs
  | [] => rfl
  | g :: gs => by simp only [List.map_cons, prodC, sym_sym, prodC_sym gs]
theorem cntW_eq {gs : List (List Span)} (h : prodC gs ≤ 3000) : (cntW (gs.map symI) : Int) = prodC gs := by
  have := prodC_nn gs
  rw [cntW, wins_prod _ (by omega), prodC_sym]
  omega
theorem idx_of : ∀ {l : List Span} {x : Int}, (∀ s ∈ l, s.lo ≤ s.hi) → memL l x → ∃ i, 0 ≤ i ∧ i < cntI l ∧ nthI l i = some x
  | [], x, _, h => absurd h (memL_nil x)
  | s :: l, x, hs, h => by
    have h0 := hs s (by simp)
    have hn : 0 ≤ cntI l := by
      have : ∀ m : List Span, (∀ s ∈ m, s.lo ≤ s.hi) → 0 ≤ cntI m := fun m => by
        induction m with
        | nil => simp [cntI]
        | cons a m ih =>
          intro h
          have := ih fun s hs => h s (by simp [hs])
          have := h a (by simp)
          simp only [cntI]; omega
      exact this l fun s hs' => hs s (by simp [hs'])
    by_cases hx : s.lo ≤ x ∧ x ≤ s.hi
    · refine ⟨x - s.lo, by omega, by simp only [cntI]; omega, ?_⟩
      rw [nthI, if_neg (by omega), if_pos (by omega)]
      congr 1; omega
    · rcases memL_cons.1 h with h | h
      · exact absurd h hx
      · obtain ⟨i, h1, h2, h3⟩ := idx_of (fun t ht => hs t (by simp [ht])) h
        refine ⟨i + (s.hi - s.lo + 1), by omega, by simp only [cntI]; omega, ?_⟩
        rw [nthI, if_neg (by omega), if_neg (by omega), show i + (s.hi - s.lo + 1) - (s.hi - s.lo + 1) = i by omega]
        exact h3
theorem win_cons {g : List Span} {gs : List (List Span)} {w : List Int} : Win (g :: gs) w ↔ ∃ x r, w = x :: r ∧ memL g x ∧ Win gs r := by
  constructor
  · rintro ⟨h1, h2⟩
    cases w with
    | nil => simp at h1
    | cons x r =>
      refine ⟨x, r, rfl, ?_, by simpa using h1, fun i hi => ?_⟩
      · exact h2 0 (by simp)
      · exact h2 (i + 1) (by simp; omega)
  · rintro ⟨x, r, rfl, h1, h2⟩
    refine ⟨by simp [h2.1], fun i hi => ?_⟩
    cases i with
    | zero => exact h1
    | succ i => exact h2.2 i (by simp at hi; omega)
theorem win_nil {w : List Int} : Win [] w ↔ w = [] := by
  constructor
  · rintro ⟨h, _⟩; exact List.eq_nil_of_length_eq_zero h
  · rintro rfl; exact ⟨rfl, fun i hi => by simp at hi⟩
theorem dig_win {m : List (List Span)} {k : Int} (hk : 0 ≤ k) : ∀ (l : List (List Span)), (∀ g ∈ l, Syms g ∧ 0 < cntI g) → 0 ≤ (l.foldr digF (k, [])).1 ∧ Win l (l.foldr digF (k, [])).2
  | [], _ => ⟨hk, win_nil.2 rfl⟩
  | g :: l, h => by
    obtain ⟨i1, i2⟩ := dig_win (m := m) hk l fun g hg => h g (by simp [hg])
    have hm := h g (by simp)
    rw [List.foldr_cons]
    generalize l.foldr digF (k, []) = s at *
    have hq1 := Int.emod_nonneg s.1 (show cntI g ≠ 0 by omega)
    have hq2 := Int.emod_lt_of_pos s.1 hm.2
    obtain ⟨x, hx, hxm⟩ := nthI_mem (l := g) hm.1.1.1 ⟨hq1, hq2⟩
    refine ⟨Int.ediv_nonneg i1 (by omega), ?_⟩
    rw [digF, hx]
    exact win_cons.2 ⟨x, s.2, rfl, hxm, i2⟩
theorem syms_symI {g : List Span} (h : Syms g) : symI g = g := by
  obtain ⟨p1, p2⟩ := symI_spec g
  refine plain_ext p1 h.1 fun v => ?_
  rw [p2]
  exact ⟨fun h => h.2, fun hv => ⟨h.mem hv, hv⟩⟩
theorem dig_all : ∀ (l : List (List Span)) (w : List Int) (q : Int), (∀ g ∈ l, Syms g ∧ 0 < cntI g) → Win l w → 0 ≤ q → ∃ k, 0 ≤ k ∧ k < (q + 1) * prodC l ∧ l.foldr digF (k, []) = (q, w)
  | [], w, q, _, hw, hq => by
    rw [win_nil] at hw
    subst hw
    exact ⟨q, hq, by simp only [prodC]; omega, rfl⟩
  | g :: l, w, q, h, hw, hq => by
    obtain ⟨x, r, rfl, h1, h2⟩ := win_cons.1 hw
    have hm := h g (by simp)
    obtain ⟨i, k1, k2, k3⟩ := idx_of hm.1.1.1 h1
    have hqc : 0 ≤ q * cntI g := Int.mul_nonneg hq (by omega)
    obtain ⟨k, j1, j2, j3⟩ := dig_all l r (cntI g * q + i) (fun g hg => h g (by simp [hg])) h2 (by rw [Int.mul_comm]; omega)
    have hsg : symI g = g := syms_symI hm.1
    refine ⟨k, j1, ?_, ?_⟩
    · have e : (cntI g * q + i + 1) * prodC l ≤ (q + 1) * prodC (g :: l) := by
        rw [prodC, hsg, ← Int.mul_assoc]
        refine Int.mul_le_mul_of_nonneg_right ?_ (prodC_nn l)
        rw [Int.add_mul, Int.one_mul, Int.mul_comm q]
        omega
      omega
    · rw [List.foldr_cons, j3, digF]
      simp only
      rw [mod_back ⟨k1, k2⟩, k3]
      have : (cntI g * q + i) / cntI g = q := by
        rw [Int.add_comm, Int.add_mul_ediv_left _ _ (by omega), Int.ediv_eq_zero_of_lt k1 k2]; omega
      rw [this]
      rfl
theorem winL_all {gs : List (List Span)} (hp : prodC gs ≤ 3000) (w : List Int) : Win (gs.map symI) w ↔ ∃ k, k < cntW (gs.map symI) ∧ winL (gs.map symI) (k : Nat) = w := by
  have hc := cntW_eq hp
  constructor
  · intro hw
    have hpos : ∀ g ∈ gs.map symI, Syms g ∧ 0 < cntI g := fun g hg => by
      obtain ⟨g0, _, rfl⟩ := List.mem_map.1 hg
      refine ⟨symI_syms g0, ?_⟩
      obtain ⟨i, hi, e⟩ := List.getElem_of_mem hg
      have hm := hw.2 i (by simpa using hi)
      have e2 : nth (gs.map symI) i = symI g0 := by rw [nth, List.getD_eq_getElem?_getD, List.getElem?_eq_getElem hi]; exact e
      rw [e2] at hm
      obtain ⟨j, h1, h2, _⟩ := idx_of (symI_syms g0).1.1 hm
      omega
    obtain ⟨k, h1, h2, h3⟩ := dig_all _ w 0 hpos hw (Int.le_refl 0)
    rw [prodC_sym] at h2
    refine ⟨k.toNat, by omega, ?_⟩
    rw [winL, show ((k.toNat : Nat) : Int) = k by omega, h3]
  · rintro ⟨k, h1, rfl⟩
    exact (dig_win (m := []) (k := k) (by omega) _ (cntW_pos h1)).2
theorem hasI_in {l : List Span} {v : Int} (h : -1073741824 ≤ v ∧ v ≤ 1073741824) : hasI l v = true ↔ memL l v := by
  rw [hasI_iff]; exact ⟨fun h => h.2.2, fun hm => ⟨h.1, h.2, hm⟩⟩
theorem winV_bd {t : Term} {gs : List (List Span)} {k : Nat} (h4 : gs.length ≤ 4) (hn : numbersB t = true) (hp : prtB t gs.length = true) (hk : k < cntW (gs.map symI)) : -1073741824 ≤ winV t (gs.map symI) k ∧ winV t (gs.map symI) k ≤ 1073741824 := by
  have hw := (dig_win (m := []) (k := k) (by omega) _ (cntW_pos hk)).2
  have hnum := hn
  simp only [numbersB, Bool.and_eq_true, decide_eq_true_eq] at hnum
  have hbm := small_bd hnum.1.1.1
  rw [winV, winL, value_win (setsOk_sym hp h4) hn hw]
  split
  · have := valP_small hnum.1.2 (x := t.sum + totW (List.foldr digF (↑k, []) (List.map symI gs)).2 t.parts) (by omega)
    simp only [Option.getD_some]
    omega
  · simp
theorem outK_mem {t : Term} {m : List (List Span)} (hb : ∀ k, k < cntW m → -1073741824 ≤ winV t m k ∧ winV t m k ≤ 1073741824) {v : Int} : ∀ n, n ≤ cntW m → (memL (outK t m n) v ↔ ∃ k, k < n ∧ winV t m k = v)
  | 0, _ => ⟨fun h => absurd h (memL_nil v), fun ⟨k, h, _⟩ => absurd h (by omega)⟩
  | n + 1, h => by
    have ih := outK_mem hb (v := v) n (by omega)
    have hbn := hb n (by omega)
    have key : memL (outK t m (n + 1)) v ↔ memL (outK t m n) v ∨ v = winV t m n := by
      rw [outK_succ, outF]
      split
      · rename_i hh
        rw [hasI_in hbn] at hh
        exact ⟨.inl, fun h => h.elim id fun e => e ▸ hh⟩
      · rw [memL_app, show [oneS (winV t m n)] = [⟨winV t m n, winV t m n⟩] from rfl, mem_one]
    rw [key, ih]
    constructor
    · rintro (⟨k, h1, h2⟩ | h)
      · exact ⟨k, by omega, h2⟩
      · exact ⟨n, by omega, h.symm⟩
    · rintro ⟨k, h1, h2⟩
      rcases Nat.lt_or_ge k n with h3 | h3
      · exact .inl ⟨k, h3, h2⟩
      · obtain rfl : k = n := by omega
        exact .inr h2.symm
theorem prt_cond {t : Term} {gs : List (List Span)} (h : ¬ (4 < gs.length ∨ numbersB t = false)) : gs.length ≤ 4 ∧ numbersB t = true := ⟨by omega, by simpa using (not_or.1 h).2⟩
theorem image_ref {t : Term} {gs : List (List Span)} (hc : gs.length ≤ 4 → prodC gs ≤ 3000) : imageV t gs = refImg t gs := by
  by_cases h1 : 4 < gs.length ∨ numbersB t = false
  · have e : innerV t gs = ([], false) := by rw [innerV, if_pos h1]
    rw [imageV, e, refImg, if_pos h1, if_pos rfl]
  obtain ⟨h4, hn⟩ := prt_cond h1
  cases hp : prtB t gs.length
  · have e : innerV t gs = ([], false) := by rw [innerV, if_neg h1, if_pos hp]
    rw [imageV, e, refImg, if_neg h1, if_pos hp, if_pos rfl]
  have h3 := hc h4
  obtain ⟨s1, s2, s3⟩ := image_spec h4 hn hp
  have hall := winL_all h3
  have hok : okW t (gs.map symI) (cntW (gs.map symI)) = true ↔ (imageV t gs).2 = true := by
    rw [s1, okW, List.all_eq_true]
    constructor
    · intro h w hw
      obtain ⟨k, k1, rfl⟩ := (hall w).1 hw
      exact h k (by simpa using k1)
    · intro h k hk
      exact h _ ((hall _).2 ⟨k, by simpa using hk, rfl⟩)
  rw [refImg, if_neg h1, if_neg (by simp [hp])]
  cases hi : (imageV t gs).2
  · rw [hi] at hok
    rw [if_neg (by rw [hok]; simp), ← s2 hi, ← hi]
  · rw [hi] at hok
    rw [if_pos (hok.2 rfl), ← hi]
    obtain ⟨p1, p2⟩ := s3 hi
    have hbd := fun k hk => winV_bd (k := k) h4 hn hp hk
    obtain ⟨q1, q2⟩ := normI_plain (outK t (gs.map symI) (cntW (gs.map symI)))
    have e : (imageV t gs).1 = normI (outK t (gs.map symI) (cntW (gs.map symI))) := by
      refine plain_ext p1 q1 fun v => ?_
      rw [p2, q2, outK_mem hbd _ (Nat.le_refl _)]
      have hsome := s1.1 hi
      constructor
      · rintro ⟨w, hw, hv⟩
        obtain ⟨k, k1, rfl⟩ := (hall w).1 hw
        have hb := hbd k k1
        have e : winV t (gs.map symI) k = v := by rw [winV, hv]; rfl
        rw [e] at hb
        exact ⟨⟨k, k1, e⟩, hb⟩
      · rintro ⟨⟨k, k1, rfl⟩, _⟩
        have hw := (hall _).2 ⟨k, k1, rfl⟩
        refine ⟨_, hw, ?_⟩
        rw [winV]
        exact some_get (hsome _ hw)
    exact Prod.ext e rfl
theorem dom_mem {o v : Int} : memL (domL o) v ↔ inDom o v = true := by
  unfold domL
  simp only [inDom, decide_eq_true_eq]
  split
  · rw [memL_cons]; simp only [memL_nil, or_false]; omega
  · split
    · rw [memL_cons, memL_cons]; simp only [memL_nil, or_false]; omega
    · simp only [memL_nil, false_iff]; omega
theorem inDom_bd {o v : Int} (h : inDom o v = true) : 0 ≤ v ∧ v ≤ 1114111 := by
  simp only [inDom, decide_eq_true_eq] at h; omega
theorem minus_nil {l d : List Span} (hl : ∀ v, memL l v → -1073741824 ≤ v ∧ v ≤ 1073741824) (hp : Full l) : minusL l d = [] ↔ ∀ v, memL l v → memL d v := by
  obtain ⟨m1, m2⟩ := minus_spec l d
  constructor
  · intro h v hv
    rw [h] at m2
    exact Classical.byContradiction fun hn => memL_nil v ((m2 v).2 ⟨hv, hl v hv, hn⟩)
  · intro h
    cases hm : minusL l d with
    | nil => rfl
    | cons s r =>
      rw [hm] at m1 m2
      obtain ⟨a, _, c⟩ := (m2 s.lo).1 (memL_cons.2 (.inl ⟨Int.le_refl _, m1.1 s (by simp)⟩))
      exact absurd (h _ a) c
theorem right_parts {t : Term} {i o n : Int} (h : rightT t i o n = true) : numbersB t = true ∧ prtB t n = true := by
  simp only [rightT, rightsB, Bool.and_eq_true] at h
  obtain ⟨⟨⟨⟨_, hn⟩, hr⟩, _⟩, _⟩ := h
  refine ⟨hn, ?_⟩
  rw [prtB, List.all_eq_true]
  intro p hp
  have := List.all_eq_true.1 hr p hp
  simp only [Bool.and_eq_true] at this
  exact this.1
theorem image_bd {t : Term} {gs : List (List Span)} (h4 : gs.length ≤ 4) (hn : numbersB t = true) (hp : prtB t gs.length = true) {w : List Int} {v : Int} (hw : Win (gs.map symI) w) (hv : valueT t w = some v) : -1073741824 ≤ v ∧ v ≤ 1073741824 := by
  have hnum := hn
  simp only [numbersB, Bool.and_eq_true, decide_eq_true_eq] at hnum
  have hbm := small_bd hnum.1.1.1
  rw [value_win (setsOk_sym hp h4) hn hw] at hv
  split at hv
  · have := valP_small hnum.1.2 (x := t.sum + totW w t.parts) (by omega)
    simp only [Option.some.injEq] at hv
    omega
  · cases hv
theorem fits_spec {t : Term} {i o : Int} {gs : List (List Span)} (h4 : gs.length ≤ 4) : fitsT t i o gs = true ↔ rightT t i o gs.length = true ∧ ∀ w, Win (gs.map symI) w → fitW t o w = true := by
  rw [fitsT, Bool.and_eq_true, Bool.and_eq_true, decide_eq_true_eq]
  refine and_congr_right fun hr => ?_
  obtain ⟨hn, hp⟩ := right_parts hr
  obtain ⟨s1, s2, s3⟩ := image_spec h4 hn hp
  constructor
  · rintro ⟨hi, hm⟩ w hw
    obtain ⟨p1, p2⟩ := s3 hi
    rw [minus_nil (fun v hv => by obtain ⟨w, h1, h2⟩ := (p2 v).1 hv; exact image_bd h4 hn hp h1 h2) p1.1] at hm
    have hv := some_get (s1.1 hi w hw)
    have := dom_mem.1 (hm _ ((p2 _).2 ⟨w, hw, hv⟩))
    have hb := inDom_bd this
    rw [fitW, hv]
    simp [hb, this]
  · intro h
    have hi : (imageV t gs).2 = true := s1.2 fun w hw => by
      have := h w hw
      rw [fitW] at this
      cases hv : valueT t w with
      | none => rw [hv] at this; cases this
      | some v => rfl
    obtain ⟨p1, p2⟩ := s3 hi
    refine ⟨hi, (minus_nil (fun v hv => by obtain ⟨w, h1, h2⟩ := (p2 v).1 hv; exact image_bd h4 hn hp h1 h2) p1.1).2 fun v hv => ?_⟩
    obtain ⟨w, h1, h2⟩ := (p2 v).1 hv
    have := h w h1
    rw [fitW, h2] at this
    simp only [Bool.and_eq_true] at this
    exact dom_mem.2 this.2
theorem fits_long {t : Term} {i o : Int} {gs : List (List Span)} (h4 : ¬ gs.length ≤ 4) : fitsT t i o gs = false := by
  have e : innerV t gs = ([], false) := by rw [innerV, if_pos (.inl (by omega))]
  have e2 : imageV t gs = ([], false) := by rw [imageV, e, if_pos rfl]
  rw [fitsT, e2]; simp
theorem fits_ref {t : Term} {i o : Int} {gs : List (List Span)} (hc : gs.length ≤ 4 → prodC gs ≤ 3000) : fitsT t i o gs = refFits t i o gs := by
  by_cases h4 : gs.length ≤ 4
  · have hall := winL_all (hc h4)
    rw [Bool.eq_iff_iff, fits_spec h4, refFits, decide_eq_true h4, Bool.true_and, Bool.and_eq_true, okF, List.all_eq_true]
    refine and_congr_right fun _ => ?_
    constructor
    · intro h k hk
      exact h _ ((hall _).2 ⟨k, by simpa using hk, rfl⟩)
    · intro h w hw
      obtain ⟨k, k1, rfl⟩ := (hall w).1 hw
      exact h k (by simpa using k1)
  · rw [fits_long h4, refFits, decide_eq_false h4]; simp
end Go.Proofs.Ytdjbcenfgceejaa
set_option linter.unusedSimpArgs false
set_option linter.unusedVariables false
namespace Go.Proofs.Ytdjbcenfgceejaa
open Abs
theorem great2 {t : Term} {s g : List Span} (h : greatB t [s, g] = false) : t.parts.length ≤ 20 ∧ s.length ≤ 50 ∧ g.length ≤ 50 := by
  simp only [greatB, List.any_cons, List.any_nil, Bool.or_eq_false_iff, decide_eq_false_iff_not] at h
  omega
theorem has_pre (t : Term) (s g : List Span) (x : Int) : hasI (preT t s g) x = (hasI s x && preP t g x) := by
  obtain ⟨h1, h2⟩ := gather_spec (preP t g) (symI_spec s).1
  rw [Bool.eq_iff_iff, hasI_iff, Bool.and_eq_true, hasI_iff, show memL (preT t s g) x ↔ _ from h2 x, (symI_spec s).2 x]
  constructor
  · rintro ⟨a, b, ⟨⟨c, d⟩, e⟩⟩; exact ⟨⟨a, b, d⟩, e⟩
  · rintro ⟨⟨a, b, d⟩, e⟩
    refine ⟨a, b, ⟨?_, d⟩, e⟩
    rw [preP, Bool.and_eq_true] at e
    obtain ⟨v, hv⟩ := Option.isSome_iff_exists.1 e.1
    have := (value_some hv).1
    simpa [symB] using this
theorem has_eq (a b : Term) (s : List Span) (x : Int) : hasI (eqT a b s) x = (hasI s x && eqP a b x) := by
  obtain ⟨h1, h2⟩ := gather_spec (eqP a b) (symI_spec s).1
  rw [Bool.eq_iff_iff, hasI_iff, Bool.and_eq_true, hasI_iff, show memL (eqT a b s) x ↔ _ from h2 x, (symI_spec s).2 x]
  constructor
  · rintro ⟨a, b, ⟨⟨c, d⟩, e⟩⟩; exact ⟨⟨a, b, d⟩, e⟩
  · rintro ⟨⟨a, b, d⟩, e⟩
    refine ⟨a, b, ⟨?_, d⟩, e⟩
    rw [eqP, Bool.and_eq_true] at e
    obtain ⟨v, hv⟩ := Option.isSome_iff_exists.1 e.1
    have := (value_some hv).1
    simpa [symB] using this
set_option maxHeartbeats 2000000 in
theorem law_TermFar (a b : Term) (s g : List Span) (x : Int) (ha : termOk a) (hb : termOk b) (hx : -2147483648 ≤ x ∧ x ≤ 2147483647) : PC Try.prog 9 [termV a, termV b, spansV s, spansV g, .int .i32 x] (.bool true) := by
  have hG := law_great a [s, g]
  cases hg : greatB a [s, g] with
  | true =>
    rw [hg] at hG
    refine pc_w' c_law04_TermFar ?_
    unfold B_law04_TermFar
    (repeat' (first | (simp (disch := omega) only [push_cast, ↓zz, seval, guardsV, List.map_cons, List.map_nil]) | (with_reducible refine And.intro ?_ ?_) | (with_reducible refine condW_split ?_ ?_ <;> intro hc <;> (try simp only [push_cast] at hc)) | (with_reducible refine guardW_split ?_ ?_ <;> intro hc <;> (try simp only [push_cast] at hc)) | ((with_reducible first | refine eK hG ?_ | refine eQ hG ?_ | refine eG hG ?_)) | ((with_reducible first | refine eK law_awake ?_ | refine eQ law_awake ?_ | refine eG law_awake ?_)) | ((with_reducible first | refine cK hG ?_ | refine cQ hG ?_ | refine cG hG ?_); (simp (disch := omega) only [push_cast, ↓zz, seval, guardsV, List.map_cons, List.map_nil]); (fail_if_success (with_reducible change False))) | ((with_reducible first | refine cK law_awake ?_ | refine cQ law_awake ?_ | refine cG law_awake ?_); (simp (disch := omega) only [push_cast, ↓zz, seval, guardsV, List.map_cons, List.map_nil]); (fail_if_success (with_reducible change False))) | omega | (with_reducible intro _)))
  | false =>
    rw [hg] at hG
    obtain ⟨g1, g2, g3⟩ := great2 hg
    have hql : (preT a s g).length ≤ 1114112 := by
      obtain ⟨h1, h2⟩ := gather_spec (preP a g) (symI_spec s).1
      exact (syms_of h1 fun v hv => (((symI_spec s).2 v).1 ((h2 v).1 hv).1).1).len
    have hqe : (eqT a b s).length ≤ 1114112 := by
      obtain ⟨h1, h2⟩ := gather_spec (eqP a b) (symI_spec s).1
      exact (syms_of h1 fun v hv => (((symI_spec s).2 v).1 ((h2 v).1 hv).1).1).len
    have hbl := hb.2.1
    by_cases hb1 : b.parts.length ≤ 1
    · have hw : IntKind.i64.wrap x = x := IntWalk.i64_in _ (by omega)
      have hv := term_Value a [x] (by omega) (by simp) (by simp; omega)
      have hv2 := term_Value b [x] (by omega) (by simp) (by simp; omega)
      have hP := has_pre a s g x
      have hE := has_eq a b s x
      have k1 := span_Has (preT a s g) x (by omega)
      have k2 := span_Has (eqT a b s) x (by omega)
      rw [hP] at k1
      rw [hE] at k2
      refine pc_w' c_law04_TermFar ?_
      unfold B_law04_TermFar
      (repeat' (first | (simp (disch := omega) only [push_cast, ↓zz, seval, hw, guardsV, List.map_cons, List.map_nil]) | (with_reducible refine And.intro ?_ ?_) | (with_reducible refine condW_split ?_ ?_ <;> intro hc <;> (try simp only [push_cast] at hc)) | (with_reducible refine guardW_split ?_ ?_ <;> intro hc <;> (try simp only [push_cast] at hc)) | ((with_reducible first | refine eK hG ?_ | refine eQ hG ?_ | refine eG hG ?_)) | ((with_reducible first | refine eK law_awake ?_ | refine eQ law_awake ?_ | refine eG law_awake ?_)) | ((with_reducible first | refine eK hv ?_ | refine eQ hv ?_ | refine eG hv ?_)) | ((with_reducible first | refine eK hv2 ?_ | refine eQ hv2 ?_ | refine eG hv2 ?_)) | (have q_ := span_Has s x (by omega); (with_reducible first | refine eK q_ ?_ | refine eQ q_ ?_ | refine eG q_ ?_); clear q_) | (have q_ := term_Pre a s g (by omega) (by omega) (by omega); (with_reducible first | refine eK q_ ?_ | refine eQ q_ ?_ | refine eG q_ ?_); clear q_) | ((with_reducible first | refine eK k1 ?_ | refine eQ k1 ?_ | refine eG k1 ?_)) | (have q_ := term_Equal a b s (by omega) (by omega) (by omega); (with_reducible first | refine eK q_ ?_ | refine eQ q_ ?_ | refine eG q_ ?_); clear q_) | ((with_reducible first | refine eK k2 ?_ | refine eQ k2 ?_ | refine eG k2 ?_)) | (have q_ := span_Has g ((valueT a [x]).getD 0) (by omega); (with_reducible first | refine eK q_ ?_ | refine eQ q_ ?_ | refine eG q_ ?_); clear q_) | ((with_reducible first | refine cK hG ?_ | refine cQ hG ?_ | refine cG hG ?_); (simp (disch := omega) only [push_cast, ↓zz, seval, hw, guardsV, List.map_cons, List.map_nil]); (fail_if_success (with_reducible change False)); (repeat' (first | (with_reducible refine And.intro ?_ ?_) | omega)); (fail_if_success (any_goals (with_reducible change @Eq (List AV) _ _)))) | ((with_reducible first | refine cK law_awake ?_ | refine cQ law_awake ?_ | refine cG law_awake ?_); (simp (disch := omega) only [push_cast, ↓zz, seval, hw, guardsV, List.map_cons, List.map_nil]); (fail_if_success (with_reducible change False))) | ((with_reducible first | refine cK hv ?_ | refine cQ hv ?_ | refine cG hv ?_); (simp (disch := omega) only [push_cast, ↓zz, seval, hw, guardsV, List.map_cons, List.map_nil]); (fail_if_success (with_reducible change False)); (repeat' (first | (with_reducible refine And.intro ?_ ?_) | omega)); (fail_if_success (any_goals (with_reducible change @Eq (List AV) _ _)))) | ((with_reducible first | refine cK hv2 ?_ | refine cQ hv2 ?_ | refine cG hv2 ?_); (simp (disch := omega) only [push_cast, ↓zz, seval, hw, guardsV, List.map_cons, List.map_nil]); (fail_if_success (with_reducible change False)); (repeat' (first | (with_reducible refine And.intro ?_ ?_) | omega)); (fail_if_success (any_goals (with_reducible change @Eq (List AV) _ _)))) | (have q_ := span_Has s x (by omega); (with_reducible first | refine cK q_ ?_ | refine cQ q_ ?_ | refine cG q_ ?_); clear q_; (simp (disch := omega) only [push_cast, ↓zz, seval, hw, guardsV, List.map_cons, List.map_nil]); (fail_if_success (with_reducible change False)); (repeat' (first | (with_reducible refine And.intro ?_ ?_) | omega)); (fail_if_success (any_goals (with_reducible change @Eq (List AV) _ _)))) | (have q_ := term_Pre a s g (by omega) (by omega) (by omega); (with_reducible first | refine cK q_ ?_ | refine cQ q_ ?_ | refine cG q_ ?_); clear q_; (simp (disch := omega) only [push_cast, ↓zz, seval, hw, guardsV, List.map_cons, List.map_nil]); (fail_if_success (with_reducible change False))) | ((with_reducible first | refine cK k1 ?_ | refine cQ k1 ?_ | refine cG k1 ?_); (simp (disch := omega) only [push_cast, ↓zz, seval, hw, guardsV, List.map_cons, List.map_nil]); (fail_if_success (with_reducible change False)); (repeat' (first | (with_reducible refine And.intro ?_ ?_) | omega)); (fail_if_success (any_goals (with_reducible change @Eq (List AV) _ _)))) | (have q_ := term_Equal a b s (by omega) (by omega) (by omega); (with_reducible first | refine cK q_ ?_ | refine cQ q_ ?_ | refine cG q_ ?_); clear q_; (simp (disch := omega) only [push_cast, ↓zz, seval, hw, guardsV, List.map_cons, List.map_nil]); (fail_if_success (with_reducible change False))) | ((with_reducible first | refine cK k2 ?_ | refine cQ k2 ?_ | refine cG k2 ?_); (simp (disch := omega) only [push_cast, ↓zz, seval, hw, guardsV, List.map_cons, List.map_nil]); (fail_if_success (with_reducible change False)); (repeat' (first | (with_reducible refine And.intro ?_ ?_) | omega)); (fail_if_success (any_goals (with_reducible change @Eq (List AV) _ _)))) | (have q_ := span_Has g ((valueT a [x]).getD 0) (by omega); (with_reducible first | refine cK q_ ?_ | refine cQ q_ ?_ | refine cG q_ ?_); clear q_; (simp (disch := omega) only [push_cast, ↓zz, seval, hw, guardsV, List.map_cons, List.map_nil]); (fail_if_success (with_reducible change False)); (repeat' (first | (with_reducible refine And.intro ?_ ?_) | omega)); (fail_if_success (any_goals (with_reducible change @Eq (List AV) _ _)))) | omega | (with_reducible intro _)))
      all_goals (exfalso; clear hG hv hv2 hP hE k1 k2; simp_all [preP, eqP]; done)
    · refine pc_w' c_law04_TermFar ?_
      unfold B_law04_TermFar
      (repeat' (first | (simp (disch := omega) only [push_cast, ↓zz, seval, guardsV, List.map_cons, List.map_nil]) | (with_reducible refine And.intro ?_ ?_) | (with_reducible refine condW_split ?_ ?_ <;> intro hc <;> (try simp only [push_cast] at hc)) | (with_reducible refine guardW_split ?_ ?_ <;> intro hc <;> (try simp only [push_cast] at hc)) | ((with_reducible first | refine eK hG ?_ | refine eQ hG ?_ | refine eG hG ?_)) | ((with_reducible first | refine eK law_awake ?_ | refine eQ law_awake ?_ | refine eG law_awake ?_)) | ((with_reducible first | refine cK hG ?_ | refine cQ hG ?_ | refine cG hG ?_); (simp (disch := omega) only [push_cast, ↓zz, seval, guardsV, List.map_cons, List.map_nil]); (fail_if_success (with_reducible change False))) | ((with_reducible first | refine cK law_awake ?_ | refine cQ law_awake ?_ | refine cG law_awake ?_); (simp (disch := omega) only [push_cast, ↓zz, seval, guardsV, List.map_cons, List.map_nil]); (fail_if_success (with_reducible change False))) | omega | (with_reducible intro _)))
      all_goals trace_state
end Go.Proofs.Ytdjbcenfgceejaa
