/-
  The inner values of all windows of guards: term.values.
  The inner values of all windows of guards, of terms of four parts.
  All inner values, the values, and whether a term fits: term.inner, term.Image, term.Fits.
  Contracts of layer 6: spans, guards, terms of rules; heads.
  desc.cycle: epsilon rules, as the code goes through them.
-/
import Derived.Test.YticodgjinajkpaaDC6
import Derived.Test.YticodgjinajkpaaDC5
set_option linter.unusedSimpArgs false
set_option linter.unusedVariables false
namespace Go.Proofs.Yticodgjinajkpaa
open Abs
def placesF (pl : List Int) (p : Part) : List Int := if p.at_ ∈ pl then pl else pl ++ [p.at_]
def placesL (l : List Part) : List Int := l.foldl placesF []
def atL (l : List Part) (a : Int) : List Part := l.filter fun p => decide (p.at_ = a)
def valsF (l : List Part) (sets : List (List Span)) (out : List Span) (a : Int) : List Span := plusL out (togL (atL l a) (nth sets a.toNat))
def valsL (t : Term) (sets : List (List Span)) : List Span := (placesL t.parts).foldl (valsF t.parts sets) [⟨t.sum, t.sum⟩]
def inSym (l : List Span) : Bool := decide (0 < (l.length : Int)) && (decide (0 ≤ (firstI (normI l)).getD 0) && decide ((lastI (normI l)).getD 0 ≤ 1114111))
def Acc (l : List Span) : Prop := Bd l ∧ l.length ≤ 2147483649
theorem normI_acc (l : List Span) : Acc (normI l) := by
  refine ⟨fun s hs => ?_, normI_short l⟩
  have := normI_bounds l s hs
  omega
theorem plus_acc (a b : List Span) : Acc (plusL a b) := normI_acc _
theorem imgL_acc (p : Part) (s : List Span) : Acc (imgL p s) := by
  unfold imgL
  repeat' split
  all_goals first | exact normI_acc _ | exact ⟨fun s hs => (by cases hs), by simp⟩
theorem togL_acc (l : List Part) (s : List Span) : Acc (togL l s) := by
  unfold togL
  split
  · exact imgL_acc _ _
  · exact normI_acc _
theorem acc_one {x : Int} (h : smallB x = true) : Acc [⟨x, x⟩] := by
  refine ⟨fun s hs => ?_, by simp⟩
  have := small_bd h
  simp only [List.mem_singleton] at hs
  subst hs
  simp only
  omega
structure SetsOk (l : List Part) (sets : List (List Span)) : Prop where
  parts : ∀ p ∈ l, rightB p sets.length = true
  syms : ∀ s ∈ sets, Syms s
  many : sets.length ≤ 1000
theorem syms_norm {s : List Span} (h : Syms s) : normI s = s := norm_self h.1 fun t ht => by have := h.2 t ht; omega
theorem values_step {l : List Part} {sets : List (List Span)} {out : List Span} {a : Int} (hS : SetsOk l sets) (hA : Acc out) (ha : 0 ≤ a ∧ a < sets.length) (hl : l.length ≤ 4) :
    PC Try.prog 110 [partsV (atL l a), spansV (nth sets a.toNat)] (spansV (togL (atL l a) (nth sets a.toNat))) ∧ PC Try.prog 109 [spansV out, spansV (togL (atL l a) (nth sets a.toNat))] (spansV (valsF l sets out a)) ∧ Acc (valsF l sets out a) := by
  have hm : nth sets a.toNat ∈ sets := nth_mem (by omega)
  have hs := hS.syms _ hm
  refine ⟨term_together _ _ (Nat.le_trans (List.length_filter_le _ _) (by omega)) (fun p hp => ?_) (by have := hs.len; omega) (by rw [syms_norm hs]; exact hs), term_plus _ _ (by have := hA.2; omega) (by have := (togL_acc (atL l a) (nth sets a.toNat)).2; omega) hA.1 (togL_acc _ _).1, plus_acc _ _⟩
  have := hS.parts p ((List.mem_filter.1 hp).1)
  simp only [rightB, Bool.and_eq_true] at this
  exact this.2
theorem values_0_0 (bs dr tk up sm : Int) (sets : List (List Span)) (hs : smallB sm = true) (hS : SetsOk [] sets) :
    PC Try.prog 101 [termV ⟨bs, dr, tk, up, sm, []⟩, guardsV sets] (.tup [spansV (valsL ⟨bs, dr, tk, up, sm, []⟩ sets), .bool (inSym (valsL ⟨bs, dr, tk, up, sm, []⟩ sets))]) := by
  have hg := pure_guards sets
  have A0 := acc_one hs
  have hv : valsL ⟨bs, dr, tk, up, sm, []⟩ sets = [⟨sm, sm⟩] := by simp [valsL, placesL, placesF]
  rw [hv]
  have hF := span_First ([⟨sm, sm⟩]) (by have := A0.2; omega)
  have hL := span_Last ([⟨sm, sm⟩]) (by have := A0.2; omega)
  clear hS hv
  refine pc_w' c_term_values ?_
  unfold B_term_values
  (repeat' (first | (simp (disch := omega) only [push_cast, ↓zz, seval]) | (with_reducible refine And.intro ?_ ?_) | (with_reducible refine condW_split ?_ ?_ <;> intro hc <;> (try simp only [push_cast] at hc)) | (with_reducible refine guardW_split ?_ ?_ <;> intro hc <;> (try simp only [push_cast] at hc)) | omega | (with_reducible intro _)))
  refine LoopK_rounds 6 ?_
  (repeat' (first | (simp (disch := omega) only [push_cast, ↓zz, seval, xx, List.mem_cons, List.not_mem_nil, or_false, false_or, not_or, not_false_eq_true, true_or, or_true, findM, setM]) | (with_reducible refine And.intro ?_ ?_) | (with_reducible refine condW_split ?_ ?_ <;> intro hc <;> (try simp only [push_cast] at hc)) | (with_reducible refine guardW_split ?_ ?_ <;> intro hc <;> (try simp only [push_cast] at hc)) | ((with_reducible refine Rounds_next ?_)) | ((with_reducible refine LoopK_X [1] ?_)) | omega | (with_reducible intro _)))
  refine LoopK_head 6 (fun env => [srcOf 1 (env 6)]) [(1, guardsV sets), (6, .map 0 1), (10, spansV [⟨sm, sm⟩]), (53, .lst 1 []), (54, .int .i64 0), (55, .int .i64 0)] [⟨0, 1, true, []⟩] ?_ ?_
  · (repeat' (first | (simp (disch := omega) only [push_cast, ↓zz, seval]) | (with_reducible refine And.intro ?_ ?_) | (with_reducible refine condW_split ?_ ?_ <;> intro hc <;> (try simp only [push_cast] at hc)) | (with_reducible refine guardW_split ?_ ?_ <;> intro hc <;> (try simp only [push_cast] at hc)) | omega | (with_reducible intro _)))
    all_goals (simp only [partV]; done)
  (repeat' (first | (simp (disch := omega) only [push_cast, ↓zz, seval, findM, inSym, hg]) | (with_reducible refine And.intro ?_ ?_) | (with_reducible refine condW_split ?_ ?_ <;> intro hc <;> (try simp only [push_cast] at hc)) | (with_reducible refine guardW_split ?_ ?_ <;> intro hc <;> (try simp only [push_cast] at hc)) | ((with_reducible refine Rounds_next ?_)) | ((with_reducible first | refine eK hF ?_ | refine eQ hF ?_ | refine eG hF ?_)) | ((with_reducible first | refine eK hL ?_ | refine eQ hL ?_ | refine eG hL ?_)) | ((with_reducible first | refine cK hF ?_ | refine cQ hF ?_ | refine cG hF ?_); (simp (disch := omega) only [push_cast, ↓zz, seval, findM, inSym, hg]); (fail_if_success (with_reducible change False))) | ((with_reducible first | refine cK hL ?_ | refine cQ hL ?_ | refine cG hL ?_); (simp (disch := omega) only [push_cast, ↓zz, seval, findM, inSym, hg]); (fail_if_success (with_reducible change False))) | omega | (with_reducible intro _)))
  all_goals ((try simp only [*, decide_true, decide_false, Bool.true_and, Bool.false_and]); (repeat' (first | (simp (disch := omega) only [push_cast, ↓zz, seval, an_tup]) | omega | (with_reducible refine And.intro ?_ ?_))))
theorem values_0 (bs dr tk up sm : Int) (sets : List (List Span)) (hs : smallB sm = true) (hS : SetsOk [] sets) :
    PC Try.prog 101 [termV ⟨bs, dr, tk, up, sm, []⟩, guardsV sets] (.tup [spansV (valsL ⟨bs, dr, tk, up, sm, []⟩ sets), .bool (inSym (valsL ⟨bs, dr, tk, up, sm, []⟩ sets))]) := by
  exact values_0_0 bs dr tk up sm  sets hs hS 
theorem values_1_0 (bs dr tk up sm : Int) (p0 : Part) (sets : List (List Span)) (hs : smallB sm = true) (hS : SetsOk [p0] sets) :
    PC Try.prog 101 [termV ⟨bs, dr, tk, up, sm, [p0]⟩, guardsV sets] (.tup [spansV (valsL ⟨bs, dr, tk, up, sm, [p0]⟩ sets), .bool (inSym (valsL ⟨bs, dr, tk, up, sm, [p0]⟩ sets))]) := by
  have hg := pure_guards sets
  have b0 := right_at (hS.parts p0 (by simp))
  have A0 := acc_one hs
  obtain ⟨T1, P1, A1⟩ := values_step (a := p0.at_) hS A0 (by omega) (by simp)
  have l1 : atL [p0] p0.at_ = [p0] := by simp [atL]
  rw [l1] at T1 P1
  have hv : valsL ⟨bs, dr, tk, up, sm, [p0]⟩ sets = valsF [p0] sets ([⟨sm, sm⟩]) p0.at_ := by simp [valsL, placesL, placesF]
  rw [hv]
  generalize ho1 : valsF [p0] sets ([⟨sm, sm⟩]) p0.at_ = o1 at *
  generalize ht1 : togL [p0] (nth sets p0.at_.toNat) = t1 at *
  have hF := span_First o1 (by have := A1.2; omega)
  have hL := span_Last o1 (by have := A1.2; omega)
  clear hS hv ho1 ht1 l1
  refine pc_w' c_term_values ?_
  unfold B_term_values
  (repeat' (first | (simp (disch := omega) only [push_cast, ↓zz, seval]) | (with_reducible refine And.intro ?_ ?_) | (with_reducible refine condW_split ?_ ?_ <;> intro hc <;> (try simp only [push_cast] at hc)) | (with_reducible refine guardW_split ?_ ?_ <;> intro hc <;> (try simp only [push_cast] at hc)) | omega | (with_reducible intro _)))
  refine LoopK_rounds 6 ?_
  (repeat' (first | (simp (disch := omega) only [push_cast, ↓zz, seval, xx, List.mem_cons, List.not_mem_nil, or_false, false_or, not_or, not_false_eq_true, true_or, or_true, findM, setM]) | (with_reducible refine And.intro ?_ ?_) | (with_reducible refine condW_split ?_ ?_ <;> intro hc <;> (try simp only [push_cast] at hc)) | (with_reducible refine guardW_split ?_ ?_ <;> intro hc <;> (try simp only [push_cast] at hc)) | ((with_reducible refine Rounds_next ?_)) | ((with_reducible refine LoopK_X [1] ?_)) | omega | (with_reducible intro _)))
  refine LoopK_head 6 (fun env => [srcOf 1 (env 6)]) [(1, guardsV sets), (6, .map 0 1), (10, spansV [⟨sm, sm⟩]), (53, .lst 1 [.int .i64 p0.at_]), (54, .int .i64 1), (55, .int .i64 0)] [⟨0, 1, true, [.int .i64 p0.at_, partsV [p0]]⟩] ?_ ?_
  · (repeat' (first | (simp (disch := omega) only [push_cast, ↓zz, seval]) | (with_reducible refine And.intro ?_ ?_) | (with_reducible refine condW_split ?_ ?_ <;> intro hc <;> (try simp only [push_cast] at hc)) | (with_reducible refine guardW_split ?_ ?_ <;> intro hc <;> (try simp only [push_cast] at hc)) | omega | (with_reducible intro _)))
    all_goals (simp only [partV]; done)
  (repeat' (first | (simp (disch := omega) only [push_cast, ↓zz, seval, findM, inSym, hg]) | (with_reducible refine And.intro ?_ ?_) | (with_reducible refine condW_split ?_ ?_ <;> intro hc <;> (try simp only [push_cast] at hc)) | (with_reducible refine guardW_split ?_ ?_ <;> intro hc <;> (try simp only [push_cast] at hc)) | ((with_reducible refine Rounds_next ?_)) | ((with_reducible first | refine eQ T1 ?_ | refine eQ P1 ?_)) | ((with_reducible first | refine eK hF ?_ | refine eK hL ?_)) | omega | (with_reducible intro _)))
  all_goals ((try simp only [*, decide_true, decide_false, Bool.true_and, Bool.false_and]); (repeat' (first | (simp (disch := omega) only [push_cast, ↓zz, seval, an_tup]) | omega | (with_reducible refine And.intro ?_ ?_))))
theorem values_1 (bs dr tk up sm : Int) (p0 : Part) (sets : List (List Span)) (hs : smallB sm = true) (hS : SetsOk [p0] sets) :
    PC Try.prog 101 [termV ⟨bs, dr, tk, up, sm, [p0]⟩, guardsV sets] (.tup [spansV (valsL ⟨bs, dr, tk, up, sm, [p0]⟩ sets), .bool (inSym (valsL ⟨bs, dr, tk, up, sm, [p0]⟩ sets))]) := by
  exact values_1_0 bs dr tk up sm p0 sets hs hS 
theorem values_2_0 (bs dr tk up sm : Int) (p0 p1 : Part) (sets : List (List Span)) (hs : smallB sm = true) (hS : SetsOk [p0, p1] sets) (e1 : p1.at_ = p0.at_) :
    PC Try.prog 101 [termV ⟨bs, dr, tk, up, sm, [p0, p1]⟩, guardsV sets] (.tup [spansV (valsL ⟨bs, dr, tk, up, sm, [p0, p1]⟩ sets), .bool (inSym (valsL ⟨bs, dr, tk, up, sm, [p0, p1]⟩ sets))]) := by
  have hg := pure_guards sets
  have b0 := right_at (hS.parts p0 (by simp))
  have b1 := right_at (hS.parts p1 (by simp))
  have A0 := acc_one hs
  obtain ⟨T1, P1, A1⟩ := values_step (a := p0.at_) hS A0 (by omega) (by simp)
  have l1 : atL [p0, p1] p0.at_ = [p0, p1] := by simp [atL, e1]
  rw [l1] at T1 P1
  have hv : valsL ⟨bs, dr, tk, up, sm, [p0, p1]⟩ sets = valsF [p0, p1] sets ([⟨sm, sm⟩]) p0.at_ := by simp [valsL, placesL, placesF, e1]
  rw [hv]
  generalize ho1 : valsF [p0, p1] sets ([⟨sm, sm⟩]) p0.at_ = o1 at *
  generalize ht1 : togL [p0, p1] (nth sets p0.at_.toNat) = t1 at *
  have hF := span_First o1 (by have := A1.2; omega)
  have hL := span_Last o1 (by have := A1.2; omega)
  clear hS hv ho1 ht1 l1
  refine pc_w' c_term_values ?_
  unfold B_term_values
  (repeat' (first | (simp (disch := omega) only [push_cast, ↓zz, seval]) | (with_reducible refine And.intro ?_ ?_) | (with_reducible refine condW_split ?_ ?_ <;> intro hc <;> (try simp only [push_cast] at hc)) | (with_reducible refine guardW_split ?_ ?_ <;> intro hc <;> (try simp only [push_cast] at hc)) | omega | (with_reducible intro _)))
  refine LoopK_rounds 6 ?_
  (repeat' (first | (simp (disch := omega) only [push_cast, ↓zz, seval, xx, List.mem_cons, List.not_mem_nil, or_false, false_or, not_or, not_false_eq_true, true_or, or_true, findM, setM, e1]) | (with_reducible refine And.intro ?_ ?_) | (with_reducible refine condW_split ?_ ?_ <;> intro hc <;> (try simp only [push_cast] at hc)) | (with_reducible refine guardW_split ?_ ?_ <;> intro hc <;> (try simp only [push_cast] at hc)) | ((with_reducible refine Rounds_next ?_)) | ((with_reducible refine LoopK_X [1, 5] ?_)) | omega | (with_reducible intro _)))
  refine LoopK_head 6 (fun env => [srcOf 1 (env 6)]) [(1, guardsV sets), (6, .map 0 1), (10, spansV [⟨sm, sm⟩]), (53, .lst 1 [.int .i64 p0.at_]), (54, .int .i64 1), (55, .int .i64 0)] [⟨0, 1, true, [.int .i64 p0.at_, partsV [p0, p1]]⟩] ?_ ?_
  · (repeat' (first | (simp (disch := omega) only [push_cast, ↓zz, seval, e1]) | (with_reducible refine And.intro ?_ ?_) | (with_reducible refine condW_split ?_ ?_ <;> intro hc <;> (try simp only [push_cast] at hc)) | (with_reducible refine guardW_split ?_ ?_ <;> intro hc <;> (try simp only [push_cast] at hc)) | omega | (with_reducible intro _)))
    all_goals (simp only [partV, e1]; done)
  (repeat' (first | (simp (disch := omega) only [push_cast, ↓zz, seval, findM, inSym, hg, e1]) | (with_reducible refine And.intro ?_ ?_) | (with_reducible refine condW_split ?_ ?_ <;> intro hc <;> (try simp only [push_cast] at hc)) | (with_reducible refine guardW_split ?_ ?_ <;> intro hc <;> (try simp only [push_cast] at hc)) | ((with_reducible refine Rounds_next ?_)) | ((with_reducible first | refine eQ T1 ?_ | refine eQ P1 ?_)) | ((with_reducible first | refine eK hF ?_ | refine eK hL ?_)) | omega | (with_reducible intro _)))
  all_goals ((try simp only [*, decide_true, decide_false, Bool.true_and, Bool.false_and]); (repeat' (first | (simp (disch := omega) only [push_cast, ↓zz, seval, an_tup]) | omega | (with_reducible refine And.intro ?_ ?_))))
theorem values_2_1 (bs dr tk up sm : Int) (p0 p1 : Part) (sets : List (List Span)) (hs : smallB sm = true) (hS : SetsOk [p0, p1] sets) (n01 : ¬ p0.at_ = p1.at_) :
    PC Try.prog 101 [termV ⟨bs, dr, tk, up, sm, [p0, p1]⟩, guardsV sets] (.tup [spansV (valsL ⟨bs, dr, tk, up, sm, [p0, p1]⟩ sets), .bool (inSym (valsL ⟨bs, dr, tk, up, sm, [p0, p1]⟩ sets))]) := by
  have hg := pure_guards sets
  have b0 := right_at (hS.parts p0 (by simp))
  have b1 := right_at (hS.parts p1 (by simp))
  have A0 := acc_one hs
  obtain ⟨T1, P1, A1⟩ := values_step (a := p0.at_) hS A0 (by omega) (by simp)
  have l1 : atL [p0, p1] p0.at_ = [p0] := by simp [atL, n01, Ne.symm (show p0.at_ ≠ p1.at_ from n01)]
  rw [l1] at T1 P1
  obtain ⟨T2, P2, A2⟩ := values_step (a := p1.at_) hS A1 (by omega) (by simp)
  have l2 : atL [p0, p1] p1.at_ = [p1] := by simp [atL, n01, Ne.symm (show p0.at_ ≠ p1.at_ from n01)]
  rw [l2] at T2 P2
  have hv : valsL ⟨bs, dr, tk, up, sm, [p0, p1]⟩ sets = valsF [p0, p1] sets (valsF [p0, p1] sets ([⟨sm, sm⟩]) p0.at_) p1.at_ := by simp [valsL, placesL, placesF, n01, Ne.symm (show p0.at_ ≠ p1.at_ from n01)]
  rw [hv]
  generalize ho1 : valsF [p0, p1] sets ([⟨sm, sm⟩]) p0.at_ = o1 at *
  generalize ht1 : togL [p0] (nth sets p0.at_.toNat) = t1 at *
  generalize ho2 : valsF [p0, p1] sets (o1) p1.at_ = o2 at *
  generalize ht2 : togL [p1] (nth sets p1.at_.toNat) = t2 at *
  have hF := span_First o2 (by have := A2.2; omega)
  have hL := span_Last o2 (by have := A2.2; omega)
  clear hS hv ho1 ht1 l1 ho2 ht2 l2
  refine pc_w' c_term_values ?_
  unfold B_term_values
  (repeat' (first | (simp (disch := omega) only [push_cast, ↓zz, seval]) | (with_reducible refine And.intro ?_ ?_) | (with_reducible refine condW_split ?_ ?_ <;> intro hc <;> (try simp only [push_cast] at hc)) | (with_reducible refine guardW_split ?_ ?_ <;> intro hc <;> (try simp only [push_cast] at hc)) | omega | (with_reducible intro _)))
  refine LoopK_rounds 6 ?_
  (repeat' (first | (simp (disch := omega) only [push_cast, ↓zz, seval, xx, List.mem_cons, List.not_mem_nil, or_false, false_or, not_or, not_false_eq_true, true_or, or_true, findM, setM, n01]) | (with_reducible refine And.intro ?_ ?_) | (with_reducible refine condW_split ?_ ?_ <;> intro hc <;> (try simp only [push_cast] at hc)) | (with_reducible refine guardW_split ?_ ?_ <;> intro hc <;> (try simp only [push_cast] at hc)) | ((with_reducible refine Rounds_next ?_)) | ((with_reducible refine LoopK_X [1] ?_)) | omega | (with_reducible intro _)))
  refine LoopK_head 6 (fun env => [srcOf 1 (env 6)]) [(1, guardsV sets), (6, .map 0 1), (10, spansV [⟨sm, sm⟩]), (53, .lst 1 [.int .i64 p0.at_, .int .i64 p1.at_]), (54, .int .i64 2), (55, .int .i64 0)] [⟨0, 1, true, [.int .i64 p0.at_, partsV [p0], .int .i64 p1.at_, partsV [p1]]⟩] ?_ ?_
  · (repeat' (first | (simp (disch := omega) only [push_cast, ↓zz, seval, n01]) | (with_reducible refine And.intro ?_ ?_) | (with_reducible refine condW_split ?_ ?_ <;> intro hc <;> (try simp only [push_cast] at hc)) | (with_reducible refine guardW_split ?_ ?_ <;> intro hc <;> (try simp only [push_cast] at hc)) | omega | (with_reducible intro _)))
    all_goals (simp only [partV, n01]; done)
  (repeat' (first | (simp (disch := omega) only [push_cast, ↓zz, seval, findM, inSym, hg, n01]) | (with_reducible refine And.intro ?_ ?_) | (with_reducible refine condW_split ?_ ?_ <;> intro hc <;> (try simp only [push_cast] at hc)) | (with_reducible refine guardW_split ?_ ?_ <;> intro hc <;> (try simp only [push_cast] at hc)) | ((with_reducible refine Rounds_next ?_)) | ((with_reducible first | refine eQ T1 ?_ | refine eQ P1 ?_)) | ((with_reducible first | refine eQ T2 ?_ | refine eQ P2 ?_)) | ((with_reducible first | refine eK hF ?_ | refine eK hL ?_)) | omega | (with_reducible intro _)))
  all_goals ((try simp only [*, decide_true, decide_false, Bool.true_and, Bool.false_and]); (repeat' (first | (simp (disch := omega) only [push_cast, ↓zz, seval, an_tup]) | omega | (with_reducible refine And.intro ?_ ?_))))
theorem values_2 (bs dr tk up sm : Int) (p0 p1 : Part) (sets : List (List Span)) (hs : smallB sm = true) (hS : SetsOk [p0, p1] sets) :
    PC Try.prog 101 [termV ⟨bs, dr, tk, up, sm, [p0, p1]⟩, guardsV sets] (.tup [spansV (valsL ⟨bs, dr, tk, up, sm, [p0, p1]⟩ sets), .bool (inSym (valsL ⟨bs, dr, tk, up, sm, [p0, p1]⟩ sets))]) := by
  rcases Classical.em (p1.at_ = p0.at_) with e1 | x01
  · skip
    exact values_2_0 bs dr tk up sm p0 p1 sets hs hS e1
  have n01 : ¬ p0.at_ = p1.at_ := fun h => x01 h.symm
  exact values_2_1 bs dr tk up sm p0 p1 sets hs hS n01
theorem values_3_0 (bs dr tk up sm : Int) (p0 p1 p2 : Part) (sets : List (List Span)) (hs : smallB sm = true) (hS : SetsOk [p0, p1, p2] sets) (e1 : p1.at_ = p0.at_) (e2 : p2.at_ = p0.at_) :
    PC Try.prog 101 [termV ⟨bs, dr, tk, up, sm, [p0, p1, p2]⟩, guardsV sets] (.tup [spansV (valsL ⟨bs, dr, tk, up, sm, [p0, p1, p2]⟩ sets), .bool (inSym (valsL ⟨bs, dr, tk, up, sm, [p0, p1, p2]⟩ sets))]) := by
  have hg := pure_guards sets
  have b0 := right_at (hS.parts p0 (by simp))
  have b1 := right_at (hS.parts p1 (by simp))
  have b2 := right_at (hS.parts p2 (by simp))
  have A0 := acc_one hs
  obtain ⟨T1, P1, A1⟩ := values_step (a := p0.at_) hS A0 (by omega) (by simp)
  have l1 : atL [p0, p1, p2] p0.at_ = [p0, p1, p2] := by simp [atL, e1, e2]
  rw [l1] at T1 P1
  have hv : valsL ⟨bs, dr, tk, up, sm, [p0, p1, p2]⟩ sets = valsF [p0, p1, p2] sets ([⟨sm, sm⟩]) p0.at_ := by simp [valsL, placesL, placesF, e1, e2]
  rw [hv]
  generalize ho1 : valsF [p0, p1, p2] sets ([⟨sm, sm⟩]) p0.at_ = o1 at *
  generalize ht1 : togL [p0, p1, p2] (nth sets p0.at_.toNat) = t1 at *
  have hF := span_First o1 (by have := A1.2; omega)
  have hL := span_Last o1 (by have := A1.2; omega)
  clear hS hv ho1 ht1 l1
  refine pc_w' c_term_values ?_
  unfold B_term_values
  (repeat' (first | (simp (disch := omega) only [push_cast, ↓zz, seval]) | (with_reducible refine And.intro ?_ ?_) | (with_reducible refine condW_split ?_ ?_ <;> intro hc <;> (try simp only [push_cast] at hc)) | (with_reducible refine guardW_split ?_ ?_ <;> intro hc <;> (try simp only [push_cast] at hc)) | omega | (with_reducible intro _)))
  refine LoopK_rounds 6 ?_
  (repeat' (first | (simp (disch := omega) only [push_cast, ↓zz, seval, xx, List.mem_cons, List.not_mem_nil, or_false, false_or, not_or, not_false_eq_true, true_or, or_true, findM, setM, e1, e2]) | (with_reducible refine And.intro ?_ ?_) | (with_reducible refine condW_split ?_ ?_ <;> intro hc <;> (try simp only [push_cast] at hc)) | (with_reducible refine guardW_split ?_ ?_ <;> intro hc <;> (try simp only [push_cast] at hc)) | ((with_reducible refine Rounds_next ?_)) | ((with_reducible refine LoopK_X [1, 5] ?_)) | omega | (with_reducible intro _)))
  refine LoopK_head 6 (fun env => [srcOf 1 (env 6)]) [(1, guardsV sets), (6, .map 0 1), (10, spansV [⟨sm, sm⟩]), (53, .lst 1 [.int .i64 p0.at_]), (54, .int .i64 1), (55, .int .i64 0)] [⟨0, 1, true, [.int .i64 p0.at_, partsV [p0, p1, p2]]⟩] ?_ ?_
  · (repeat' (first | (simp (disch := omega) only [push_cast, ↓zz, seval, e1, e2]) | (with_reducible refine And.intro ?_ ?_) | (with_reducible refine condW_split ?_ ?_ <;> intro hc <;> (try simp only [push_cast] at hc)) | (with_reducible refine guardW_split ?_ ?_ <;> intro hc <;> (try simp only [push_cast] at hc)) | omega | (with_reducible intro _)))
    all_goals (simp only [partV, e1, e2]; done)
  (repeat' (first | (simp (disch := omega) only [push_cast, ↓zz, seval, findM, inSym, hg, e1, e2]) | (with_reducible refine And.intro ?_ ?_) | (with_reducible refine condW_split ?_ ?_ <;> intro hc <;> (try simp only [push_cast] at hc)) | (with_reducible refine guardW_split ?_ ?_ <;> intro hc <;> (try simp only [push_cast] at hc)) | ((with_reducible refine Rounds_next ?_)) | ((with_reducible first | refine eQ T1 ?_ | refine eQ P1 ?_)) | ((with_reducible first | refine eK hF ?_ | refine eK hL ?_)) | omega | (with_reducible intro _)))
  all_goals ((try simp only [*, decide_true, decide_false, Bool.true_and, Bool.false_and]); (repeat' (first | (simp (disch := omega) only [push_cast, ↓zz, seval, an_tup]) | omega | (with_reducible refine And.intro ?_ ?_))))
theorem values_3_1 (bs dr tk up sm : Int) (p0 p1 p2 : Part) (sets : List (List Span)) (hs : smallB sm = true) (hS : SetsOk [p0, p1, p2] sets) (e1 : p1.at_ = p0.at_) (n02 : ¬ p0.at_ = p2.at_) :
    PC Try.prog 101 [termV ⟨bs, dr, tk, up, sm, [p0, p1, p2]⟩, guardsV sets] (.tup [spansV (valsL ⟨bs, dr, tk, up, sm, [p0, p1, p2]⟩ sets), .bool (inSym (valsL ⟨bs, dr, tk, up, sm, [p0, p1, p2]⟩ sets))]) := by
  have hg := pure_guards sets
  have b0 := right_at (hS.parts p0 (by simp))
  have b1 := right_at (hS.parts p1 (by simp))
  have b2 := right_at (hS.parts p2 (by simp))
  have A0 := acc_one hs
  obtain ⟨T1, P1, A1⟩ := values_step (a := p0.at_) hS A0 (by omega) (by simp)
  have l1 : atL [p0, p1, p2] p0.at_ = [p0, p1] := by simp [atL, e1, n02, Ne.symm (show p0.at_ ≠ p2.at_ from n02)]
  rw [l1] at T1 P1
  obtain ⟨T2, P2, A2⟩ := values_step (a := p2.at_) hS A1 (by omega) (by simp)
  have l2 : atL [p0, p1, p2] p2.at_ = [p2] := by simp [atL, e1, n02, Ne.symm (show p0.at_ ≠ p2.at_ from n02)]
  rw [l2] at T2 P2
  have hv : valsL ⟨bs, dr, tk, up, sm, [p0, p1, p2]⟩ sets = valsF [p0, p1, p2] sets (valsF [p0, p1, p2] sets ([⟨sm, sm⟩]) p0.at_) p2.at_ := by simp [valsL, placesL, placesF, e1, n02, Ne.symm (show p0.at_ ≠ p2.at_ from n02)]
  rw [hv]
  generalize ho1 : valsF [p0, p1, p2] sets ([⟨sm, sm⟩]) p0.at_ = o1 at *
  generalize ht1 : togL [p0, p1] (nth sets p0.at_.toNat) = t1 at *
  generalize ho2 : valsF [p0, p1, p2] sets (o1) p2.at_ = o2 at *
  generalize ht2 : togL [p2] (nth sets p2.at_.toNat) = t2 at *
  have hF := span_First o2 (by have := A2.2; omega)
  have hL := span_Last o2 (by have := A2.2; omega)
  clear hS hv ho1 ht1 l1 ho2 ht2 l2
  refine pc_w' c_term_values ?_
  unfold B_term_values
  (repeat' (first | (simp (disch := omega) only [push_cast, ↓zz, seval]) | (with_reducible refine And.intro ?_ ?_) | (with_reducible refine condW_split ?_ ?_ <;> intro hc <;> (try simp only [push_cast] at hc)) | (with_reducible refine guardW_split ?_ ?_ <;> intro hc <;> (try simp only [push_cast] at hc)) | omega | (with_reducible intro _)))
  refine LoopK_rounds 6 ?_
  (repeat' (first | (simp (disch := omega) only [push_cast, ↓zz, seval, xx, List.mem_cons, List.not_mem_nil, or_false, false_or, not_or, not_false_eq_true, true_or, or_true, findM, setM, e1, n02]) | (with_reducible refine And.intro ?_ ?_) | (with_reducible refine condW_split ?_ ?_ <;> intro hc <;> (try simp only [push_cast] at hc)) | (with_reducible refine guardW_split ?_ ?_ <;> intro hc <;> (try simp only [push_cast] at hc)) | ((with_reducible refine Rounds_next ?_)) | ((with_reducible refine LoopK_X [1, 5] ?_)) | omega | (with_reducible intro _)))
  refine LoopK_head 6 (fun env => [srcOf 1 (env 6)]) [(1, guardsV sets), (6, .map 0 1), (10, spansV [⟨sm, sm⟩]), (53, .lst 1 [.int .i64 p0.at_, .int .i64 p2.at_]), (54, .int .i64 2), (55, .int .i64 0)] [⟨0, 1, true, [.int .i64 p0.at_, partsV [p0, p1], .int .i64 p2.at_, partsV [p2]]⟩] ?_ ?_
  · (repeat' (first | (simp (disch := omega) only [push_cast, ↓zz, seval, e1, n02]) | (with_reducible refine And.intro ?_ ?_) | (with_reducible refine condW_split ?_ ?_ <;> intro hc <;> (try simp only [push_cast] at hc)) | (with_reducible refine guardW_split ?_ ?_ <;> intro hc <;> (try simp only [push_cast] at hc)) | omega | (with_reducible intro _)))
    all_goals (simp only [partV, e1, n02]; done)
  (repeat' (first | (simp (disch := omega) only [push_cast, ↓zz, seval, findM, inSym, hg, e1, n02]) | (with_reducible refine And.intro ?_ ?_) | (with_reducible refine condW_split ?_ ?_ <;> intro hc <;> (try simp only [push_cast] at hc)) | (with_reducible refine guardW_split ?_ ?_ <;> intro hc <;> (try simp only [push_cast] at hc)) | ((with_reducible refine Rounds_next ?_)) | ((with_reducible first | refine eQ T1 ?_ | refine eQ P1 ?_)) | ((with_reducible first | refine eQ T2 ?_ | refine eQ P2 ?_)) | ((with_reducible first | refine eK hF ?_ | refine eK hL ?_)) | omega | (with_reducible intro _)))
  all_goals ((try simp only [*, decide_true, decide_false, Bool.true_and, Bool.false_and]); (repeat' (first | (simp (disch := omega) only [push_cast, ↓zz, seval, an_tup]) | omega | (with_reducible refine And.intro ?_ ?_))))
theorem values_3_2 (bs dr tk up sm : Int) (p0 p1 p2 : Part) (sets : List (List Span)) (hs : smallB sm = true) (hS : SetsOk [p0, p1, p2] sets) (e2 : p2.at_ = p0.at_) (n01 : ¬ p0.at_ = p1.at_) :
    PC Try.prog 101 [termV ⟨bs, dr, tk, up, sm, [p0, p1, p2]⟩, guardsV sets] (.tup [spansV (valsL ⟨bs, dr, tk, up, sm, [p0, p1, p2]⟩ sets), .bool (inSym (valsL ⟨bs, dr, tk, up, sm, [p0, p1, p2]⟩ sets))]) := by
  have hg := pure_guards sets
  have b0 := right_at (hS.parts p0 (by simp))
  have b1 := right_at (hS.parts p1 (by simp))
  have b2 := right_at (hS.parts p2 (by simp))
  have A0 := acc_one hs
  obtain ⟨T1, P1, A1⟩ := values_step (a := p0.at_) hS A0 (by omega) (by simp)
  have l1 : atL [p0, p1, p2] p0.at_ = [p0, p2] := by simp [atL, e2, n01, Ne.symm (show p0.at_ ≠ p1.at_ from n01)]
  rw [l1] at T1 P1
  obtain ⟨T2, P2, A2⟩ := values_step (a := p1.at_) hS A1 (by omega) (by simp)
  have l2 : atL [p0, p1, p2] p1.at_ = [p1] := by simp [atL, e2, n01, Ne.symm (show p0.at_ ≠ p1.at_ from n01)]
  rw [l2] at T2 P2
  have hv : valsL ⟨bs, dr, tk, up, sm, [p0, p1, p2]⟩ sets = valsF [p0, p1, p2] sets (valsF [p0, p1, p2] sets ([⟨sm, sm⟩]) p0.at_) p1.at_ := by simp [valsL, placesL, placesF, e2, n01, Ne.symm (show p0.at_ ≠ p1.at_ from n01)]
  rw [hv]
  generalize ho1 : valsF [p0, p1, p2] sets ([⟨sm, sm⟩]) p0.at_ = o1 at *
  generalize ht1 : togL [p0, p2] (nth sets p0.at_.toNat) = t1 at *
  generalize ho2 : valsF [p0, p1, p2] sets (o1) p1.at_ = o2 at *
  generalize ht2 : togL [p1] (nth sets p1.at_.toNat) = t2 at *
  have hF := span_First o2 (by have := A2.2; omega)
  have hL := span_Last o2 (by have := A2.2; omega)
  clear hS hv ho1 ht1 l1 ho2 ht2 l2
  refine pc_w' c_term_values ?_
  unfold B_term_values
  (repeat' (first | (simp (disch := omega) only [push_cast, ↓zz, seval]) | (with_reducible refine And.intro ?_ ?_) | (with_reducible refine condW_split ?_ ?_ <;> intro hc <;> (try simp only [push_cast] at hc)) | (with_reducible refine guardW_split ?_ ?_ <;> intro hc <;> (try simp only [push_cast] at hc)) | omega | (with_reducible intro _)))
  refine LoopK_rounds 6 ?_
  (repeat' (first | (simp (disch := omega) only [push_cast, ↓zz, seval, xx, List.mem_cons, List.not_mem_nil, or_false, false_or, not_or, not_false_eq_true, true_or, or_true, findM, setM, e2, n01]) | (with_reducible refine And.intro ?_ ?_) | (with_reducible refine condW_split ?_ ?_ <;> intro hc <;> (try simp only [push_cast] at hc)) | (with_reducible refine guardW_split ?_ ?_ <;> intro hc <;> (try simp only [push_cast] at hc)) | ((with_reducible refine Rounds_next ?_)) | ((with_reducible refine LoopK_X [1, 5] ?_)) | omega | (with_reducible intro _)))
  refine LoopK_head 6 (fun env => [srcOf 1 (env 6)]) [(1, guardsV sets), (6, .map 0 1), (10, spansV [⟨sm, sm⟩]), (53, .lst 1 [.int .i64 p0.at_, .int .i64 p1.at_]), (54, .int .i64 2), (55, .int .i64 0)] [⟨0, 1, true, [.int .i64 p0.at_, partsV [p0, p2], .int .i64 p1.at_, partsV [p1]]⟩] ?_ ?_
  · (repeat' (first | (simp (disch := omega) only [push_cast, ↓zz, seval, e2, n01]) | (with_reducible refine And.intro ?_ ?_) | (with_reducible refine condW_split ?_ ?_ <;> intro hc <;> (try simp only [push_cast] at hc)) | (with_reducible refine guardW_split ?_ ?_ <;> intro hc <;> (try simp only [push_cast] at hc)) | omega | (with_reducible intro _)))
    all_goals (simp only [partV, e2, n01]; done)
  (repeat' (first | (simp (disch := omega) only [push_cast, ↓zz, seval, findM, inSym, hg, e2, n01]) | (with_reducible refine And.intro ?_ ?_) | (with_reducible refine condW_split ?_ ?_ <;> intro hc <;> (try simp only [push_cast] at hc)) | (with_reducible refine guardW_split ?_ ?_ <;> intro hc <;> (try simp only [push_cast] at hc)) | ((with_reducible refine Rounds_next ?_)) | ((with_reducible first | refine eQ T1 ?_ | refine eQ P1 ?_)) | ((with_reducible first | refine eQ T2 ?_ | refine eQ P2 ?_)) | ((with_reducible first | refine eK hF ?_ | refine eK hL ?_)) | omega | (with_reducible intro _)))
  all_goals ((try simp only [*, decide_true, decide_false, Bool.true_and, Bool.false_and]); (repeat' (first | (simp (disch := omega) only [push_cast, ↓zz, seval, an_tup]) | omega | (with_reducible refine And.intro ?_ ?_))))
theorem values_3_3 (bs dr tk up sm : Int) (p0 p1 p2 : Part) (sets : List (List Span)) (hs : smallB sm = true) (hS : SetsOk [p0, p1, p2] sets) (e2 : p2.at_ = p1.at_) (n01 : ¬ p0.at_ = p1.at_) :
    PC Try.prog 101 [termV ⟨bs, dr, tk, up, sm, [p0, p1, p2]⟩, guardsV sets] (.tup [spansV (valsL ⟨bs, dr, tk, up, sm, [p0, p1, p2]⟩ sets), .bool (inSym (valsL ⟨bs, dr, tk, up, sm, [p0, p1, p2]⟩ sets))]) := by
  have hg := pure_guards sets
  have b0 := right_at (hS.parts p0 (by simp))
  have b1 := right_at (hS.parts p1 (by simp))
  have b2 := right_at (hS.parts p2 (by simp))
  have A0 := acc_one hs
  obtain ⟨T1, P1, A1⟩ := values_step (a := p0.at_) hS A0 (by omega) (by simp)
  have l1 : atL [p0, p1, p2] p0.at_ = [p0] := by simp [atL, e2, n01, Ne.symm (show p0.at_ ≠ p1.at_ from n01)]
  rw [l1] at T1 P1
  obtain ⟨T2, P2, A2⟩ := values_step (a := p1.at_) hS A1 (by omega) (by simp)
  have l2 : atL [p0, p1, p2] p1.at_ = [p1, p2] := by simp [atL, e2, n01, Ne.symm (show p0.at_ ≠ p1.at_ from n01)]
  rw [l2] at T2 P2
  have hv : valsL ⟨bs, dr, tk, up, sm, [p0, p1, p2]⟩ sets = valsF [p0, p1, p2] sets (valsF [p0, p1, p2] sets ([⟨sm, sm⟩]) p0.at_) p1.at_ := by simp [valsL, placesL, placesF, e2, n01, Ne.symm (show p0.at_ ≠ p1.at_ from n01)]
  rw [hv]
  generalize ho1 : valsF [p0, p1, p2] sets ([⟨sm, sm⟩]) p0.at_ = o1 at *
  generalize ht1 : togL [p0] (nth sets p0.at_.toNat) = t1 at *
  generalize ho2 : valsF [p0, p1, p2] sets (o1) p1.at_ = o2 at *
  generalize ht2 : togL [p1, p2] (nth sets p1.at_.toNat) = t2 at *
  have hF := span_First o2 (by have := A2.2; omega)
  have hL := span_Last o2 (by have := A2.2; omega)
  clear hS hv ho1 ht1 l1 ho2 ht2 l2
  refine pc_w' c_term_values ?_
  unfold B_term_values
  (repeat' (first | (simp (disch := omega) only [push_cast, ↓zz, seval]) | (with_reducible refine And.intro ?_ ?_) | (with_reducible refine condW_split ?_ ?_ <;> intro hc <;> (try simp only [push_cast] at hc)) | (with_reducible refine guardW_split ?_ ?_ <;> intro hc <;> (try simp only [push_cast] at hc)) | omega | (with_reducible intro _)))
  refine LoopK_rounds 6 ?_
  (repeat' (first | (simp (disch := omega) only [push_cast, ↓zz, seval, xx, List.mem_cons, List.not_mem_nil, or_false, false_or, not_or, not_false_eq_true, true_or, or_true, findM, setM, e2, n01]) | (with_reducible refine And.intro ?_ ?_) | (with_reducible refine condW_split ?_ ?_ <;> intro hc <;> (try simp only [push_cast] at hc)) | (with_reducible refine guardW_split ?_ ?_ <;> intro hc <;> (try simp only [push_cast] at hc)) | ((with_reducible refine Rounds_next ?_)) | ((with_reducible refine LoopK_X [1, 8] ?_)) | omega | (with_reducible intro _)))
  refine LoopK_head 6 (fun env => [srcOf 1 (env 6)]) [(1, guardsV sets), (6, .map 0 1), (10, spansV [⟨sm, sm⟩]), (53, .lst 1 [.int .i64 p0.at_, .int .i64 p1.at_]), (54, .int .i64 2), (55, .int .i64 0)] [⟨0, 1, true, [.int .i64 p0.at_, partsV [p0], .int .i64 p1.at_, partsV [p1, p2]]⟩] ?_ ?_
  · (repeat' (first | (simp (disch := omega) only [push_cast, ↓zz, seval, e2, n01]) | (with_reducible refine And.intro ?_ ?_) | (with_reducible refine condW_split ?_ ?_ <;> intro hc <;> (try simp only [push_cast] at hc)) | (with_reducible refine guardW_split ?_ ?_ <;> intro hc <;> (try simp only [push_cast] at hc)) | omega | (with_reducible intro _)))
    all_goals (simp only [partV, e2, n01]; done)
  (repeat' (first | (simp (disch := omega) only [push_cast, ↓zz, seval, findM, inSym, hg, e2, n01]) | (with_reducible refine And.intro ?_ ?_) | (with_reducible refine condW_split ?_ ?_ <;> intro hc <;> (try simp only [push_cast] at hc)) | (with_reducible refine guardW_split ?_ ?_ <;> intro hc <;> (try simp only [push_cast] at hc)) | ((with_reducible refine Rounds_next ?_)) | ((with_reducible first | refine eQ T1 ?_ | refine eQ P1 ?_)) | ((with_reducible first | refine eQ T2 ?_ | refine eQ P2 ?_)) | ((with_reducible first | refine eK hF ?_ | refine eK hL ?_)) | omega | (with_reducible intro _)))
  all_goals ((try simp only [*, decide_true, decide_false, Bool.true_and, Bool.false_and]); (repeat' (first | (simp (disch := omega) only [push_cast, ↓zz, seval, an_tup]) | omega | (with_reducible refine And.intro ?_ ?_))))
theorem values_3_4 (bs dr tk up sm : Int) (p0 p1 p2 : Part) (sets : List (List Span)) (hs : smallB sm = true) (hS : SetsOk [p0, p1, p2] sets) (n01 : ¬ p0.at_ = p1.at_) (n02 : ¬ p0.at_ = p2.at_) (n12 : ¬ p1.at_ = p2.at_) :
    PC Try.prog 101 [termV ⟨bs, dr, tk, up, sm, [p0, p1, p2]⟩, guardsV sets] (.tup [spansV (valsL ⟨bs, dr, tk, up, sm, [p0, p1, p2]⟩ sets), .bool (inSym (valsL ⟨bs, dr, tk, up, sm, [p0, p1, p2]⟩ sets))]) := by
  have hg := pure_guards sets
  have b0 := right_at (hS.parts p0 (by simp))
  have b1 := right_at (hS.parts p1 (by simp))
  have b2 := right_at (hS.parts p2 (by simp))
  have A0 := acc_one hs
  obtain ⟨T1, P1, A1⟩ := values_step (a := p0.at_) hS A0 (by omega) (by simp)
  have l1 : atL [p0, p1, p2] p0.at_ = [p0] := by simp [atL, n01, n02, n12, Ne.symm (show p0.at_ ≠ p1.at_ from n01), Ne.symm (show p0.at_ ≠ p2.at_ from n02), Ne.symm (show p1.at_ ≠ p2.at_ from n12)]
  rw [l1] at T1 P1
  obtain ⟨T2, P2, A2⟩ := values_step (a := p1.at_) hS A1 (by omega) (by simp)
  have l2 : atL [p0, p1, p2] p1.at_ = [p1] := by simp [atL, n01, n02, n12, Ne.symm (show p0.at_ ≠ p1.at_ from n01), Ne.symm (show p0.at_ ≠ p2.at_ from n02), Ne.symm (show p1.at_ ≠ p2.at_ from n12)]
  rw [l2] at T2 P2
  obtain ⟨T3, P3, A3⟩ := values_step (a := p2.at_) hS A2 (by omega) (by simp)
  have l3 : atL [p0, p1, p2] p2.at_ = [p2] := by simp [atL, n01, n02, n12, Ne.symm (show p0.at_ ≠ p1.at_ from n01), Ne.symm (show p0.at_ ≠ p2.at_ from n02), Ne.symm (show p1.at_ ≠ p2.at_ from n12)]
  rw [l3] at T3 P3
  have hv : valsL ⟨bs, dr, tk, up, sm, [p0, p1, p2]⟩ sets = valsF [p0, p1, p2] sets (valsF [p0, p1, p2] sets (valsF [p0, p1, p2] sets ([⟨sm, sm⟩]) p0.at_) p1.at_) p2.at_ := by simp [valsL, placesL, placesF, n01, n02, n12, Ne.symm (show p0.at_ ≠ p1.at_ from n01), Ne.symm (show p0.at_ ≠ p2.at_ from n02), Ne.symm (show p1.at_ ≠ p2.at_ from n12)]
  rw [hv]
  generalize ho1 : valsF [p0, p1, p2] sets ([⟨sm, sm⟩]) p0.at_ = o1 at *
  generalize ht1 : togL [p0] (nth sets p0.at_.toNat) = t1 at *
  generalize ho2 : valsF [p0, p1, p2] sets (o1) p1.at_ = o2 at *
  generalize ht2 : togL [p1] (nth sets p1.at_.toNat) = t2 at *
  generalize ho3 : valsF [p0, p1, p2] sets (o2) p2.at_ = o3 at *
  generalize ht3 : togL [p2] (nth sets p2.at_.toNat) = t3 at *
  have hF := span_First o3 (by have := A3.2; omega)
  have hL := span_Last o3 (by have := A3.2; omega)
  clear hS hv ho1 ht1 l1 ho2 ht2 l2 ho3 ht3 l3
  refine pc_w' c_term_values ?_
  unfold B_term_values
  (repeat' (first | (simp (disch := omega) only [push_cast, ↓zz, seval]) | (with_reducible refine And.intro ?_ ?_) | (with_reducible refine condW_split ?_ ?_ <;> intro hc <;> (try simp only [push_cast] at hc)) | (with_reducible refine guardW_split ?_ ?_ <;> intro hc <;> (try simp only [push_cast] at hc)) | omega | (with_reducible intro _)))
  refine LoopK_rounds 6 ?_
  (repeat' (first | (simp (disch := omega) only [push_cast, ↓zz, seval, xx, List.mem_cons, List.not_mem_nil, or_false, false_or, not_or, not_false_eq_true, true_or, or_true, findM, setM, n01, n02, n12]) | (with_reducible refine And.intro ?_ ?_) | (with_reducible refine condW_split ?_ ?_ <;> intro hc <;> (try simp only [push_cast] at hc)) | (with_reducible refine guardW_split ?_ ?_ <;> intro hc <;> (try simp only [push_cast] at hc)) | ((with_reducible refine Rounds_next ?_)) | ((with_reducible refine LoopK_X [1] ?_)) | omega | (with_reducible intro _)))
  refine LoopK_head 6 (fun env => [srcOf 1 (env 6)]) [(1, guardsV sets), (6, .map 0 1), (10, spansV [⟨sm, sm⟩]), (53, .lst 1 [.int .i64 p0.at_, .int .i64 p1.at_, .int .i64 p2.at_]), (54, .int .i64 3), (55, .int .i64 0)] [⟨0, 1, true, [.int .i64 p0.at_, partsV [p0], .int .i64 p1.at_, partsV [p1], .int .i64 p2.at_, partsV [p2]]⟩] ?_ ?_
  · (repeat' (first | (simp (disch := omega) only [push_cast, ↓zz, seval, n01, n02, n12]) | (with_reducible refine And.intro ?_ ?_) | (with_reducible refine condW_split ?_ ?_ <;> intro hc <;> (try simp only [push_cast] at hc)) | (with_reducible refine guardW_split ?_ ?_ <;> intro hc <;> (try simp only [push_cast] at hc)) | omega | (with_reducible intro _)))
    all_goals (simp only [partV, n01, n02, n12]; done)
  (repeat' (first | (simp (disch := omega) only [push_cast, ↓zz, seval, findM, inSym, hg, n01, n02, n12]) | (with_reducible refine And.intro ?_ ?_) | (with_reducible refine condW_split ?_ ?_ <;> intro hc <;> (try simp only [push_cast] at hc)) | (with_reducible refine guardW_split ?_ ?_ <;> intro hc <;> (try simp only [push_cast] at hc)) | ((with_reducible refine Rounds_next ?_)) | ((with_reducible first | refine eQ T1 ?_ | refine eQ P1 ?_)) | ((with_reducible first | refine eQ T2 ?_ | refine eQ P2 ?_)) | ((with_reducible first | refine eQ T3 ?_ | refine eQ P3 ?_)) | ((with_reducible first | refine eK hF ?_ | refine eK hL ?_)) | omega | (with_reducible intro _)))
  all_goals ((try simp only [*, decide_true, decide_false, Bool.true_and, Bool.false_and]); (repeat' (first | (simp (disch := omega) only [push_cast, ↓zz, seval, an_tup]) | omega | (with_reducible refine And.intro ?_ ?_))))
theorem values_3 (bs dr tk up sm : Int) (p0 p1 p2 : Part) (sets : List (List Span)) (hs : smallB sm = true) (hS : SetsOk [p0, p1, p2] sets) :
    PC Try.prog 101 [termV ⟨bs, dr, tk, up, sm, [p0, p1, p2]⟩, guardsV sets] (.tup [spansV (valsL ⟨bs, dr, tk, up, sm, [p0, p1, p2]⟩ sets), .bool (inSym (valsL ⟨bs, dr, tk, up, sm, [p0, p1, p2]⟩ sets))]) := by
  rcases Classical.em (p1.at_ = p0.at_) with e1 | x01
  · skip
    rcases Classical.em (p2.at_ = p0.at_) with e2 | x02
    · skip
      exact values_3_0 bs dr tk up sm p0 p1 p2 sets hs hS e1 e2
    have n02 : ¬ p0.at_ = p2.at_ := fun h => x02 h.symm
    exact values_3_1 bs dr tk up sm p0 p1 p2 sets hs hS e1 n02
  have n01 : ¬ p0.at_ = p1.at_ := fun h => x01 h.symm
  rcases Classical.em (p2.at_ = p0.at_) with e2 | x02
  · skip
    exact values_3_2 bs dr tk up sm p0 p1 p2 sets hs hS e2 n01
  have n02 : ¬ p0.at_ = p2.at_ := fun h => x02 h.symm
  rcases Classical.em (p2.at_ = p1.at_) with e2 | x12
  · skip
    exact values_3_3 bs dr tk up sm p0 p1 p2 sets hs hS e2 n01
  have n12 : ¬ p1.at_ = p2.at_ := fun h => x12 h.symm
  exact values_3_4 bs dr tk up sm p0 p1 p2 sets hs hS n01 n02 n12
end Go.Proofs.Yticodgjinajkpaa
set_option linter.unusedSimpArgs false
set_option linter.unusedVariables false
namespace Go.Proofs.Yticodgjinajkpaa
open Abs
theorem values_4_0 (bs dr tk up sm : Int) (p0 p1 p2 p3 : Part) (sets : List (List Span)) (hs : smallB sm = true) (hS : SetsOk [p0, p1, p2, p3] sets) (e1 : p1.at_ = p0.at_) (e2 : p2.at_ = p0.at_) (e3 : p3.at_ = p0.at_) :
    PC Try.prog 101 [termV ⟨bs, dr, tk, up, sm, [p0, p1, p2, p3]⟩, guardsV sets] (.tup [spansV (valsL ⟨bs, dr, tk, up, sm, [p0, p1, p2, p3]⟩ sets), .bool (inSym (valsL ⟨bs, dr, tk, up, sm, [p0, p1, p2, p3]⟩ sets))]) := by
  have hg := pure_guards sets
  have b0 := right_at (hS.parts p0 (by simp))
  have b1 := right_at (hS.parts p1 (by simp))
  have b2 := right_at (hS.parts p2 (by simp))
  have b3 := right_at (hS.parts p3 (by simp))
  have A0 := acc_one hs
  obtain ⟨T1, P1, A1⟩ := values_step (a := p0.at_) hS A0 (by omega) (by simp)
  have l1 : atL [p0, p1, p2, p3] p0.at_ = [p0, p1, p2, p3] := by simp [atL, e1, e2, e3]
  rw [l1] at T1 P1
  have hv : valsL ⟨bs, dr, tk, up, sm, [p0, p1, p2, p3]⟩ sets = valsF [p0, p1, p2, p3] sets ([⟨sm, sm⟩]) p0.at_ := by simp [valsL, placesL, placesF, e1, e2, e3]
  rw [hv]
  generalize ho1 : valsF [p0, p1, p2, p3] sets ([⟨sm, sm⟩]) p0.at_ = o1 at *
  generalize ht1 : togL [p0, p1, p2, p3] (nth sets p0.at_.toNat) = t1 at *
  have hF := span_First o1 (by have := A1.2; omega)
  have hL := span_Last o1 (by have := A1.2; omega)
  clear hS hv ho1 ht1 l1
  refine pc_w' c_term_values ?_
  unfold B_term_values
  (repeat' (first | (simp (disch := omega) only [push_cast, ↓zz, seval]) | (with_reducible refine And.intro ?_ ?_) | (with_reducible refine condW_split ?_ ?_ <;> intro hc <;> (try simp only [push_cast] at hc)) | (with_reducible refine guardW_split ?_ ?_ <;> intro hc <;> (try simp only [push_cast] at hc)) | omega | (with_reducible intro _)))
  refine LoopK_rounds 6 ?_
  (repeat' (first | (simp (disch := omega) only [push_cast, ↓zz, seval, xx, List.mem_cons, List.not_mem_nil, or_false, false_or, not_or, not_false_eq_true, true_or, or_true, findM, setM, e1, e2, e3]) | (with_reducible refine And.intro ?_ ?_) | (with_reducible refine condW_split ?_ ?_ <;> intro hc <;> (try simp only [push_cast] at hc)) | (with_reducible refine guardW_split ?_ ?_ <;> intro hc <;> (try simp only [push_cast] at hc)) | ((with_reducible refine Rounds_next ?_)) | ((with_reducible refine LoopK_X [1, 5] ?_)) | omega | (with_reducible intro _)))
  refine LoopK_head 6 (fun env => [srcOf 1 (env 6)]) [(1, guardsV sets), (6, .map 0 1), (10, spansV [⟨sm, sm⟩]), (53, .lst 1 [.int .i64 p0.at_]), (54, .int .i64 1), (55, .int .i64 0)] [⟨0, 1, true, [.int .i64 p0.at_, partsV [p0, p1, p2, p3]]⟩] ?_ ?_
  · (repeat' (first | (simp (disch := omega) only [push_cast, ↓zz, seval, e1, e2, e3]) | (with_reducible refine And.intro ?_ ?_) | (with_reducible refine condW_split ?_ ?_ <;> intro hc <;> (try simp only [push_cast] at hc)) | (with_reducible refine guardW_split ?_ ?_ <;> intro hc <;> (try simp only [push_cast] at hc)) | omega | (with_reducible intro _)))
    all_goals (simp only [partV, e1, e2, e3]; done)
  (repeat' (first | (simp (disch := omega) only [push_cast, ↓zz, seval, findM, inSym, hg, e1, e2, e3]) | (with_reducible refine And.intro ?_ ?_) | (with_reducible refine condW_split ?_ ?_ <;> intro hc <;> (try simp only [push_cast] at hc)) | (with_reducible refine guardW_split ?_ ?_ <;> intro hc <;> (try simp only [push_cast] at hc)) | ((with_reducible refine Rounds_next ?_)) | ((with_reducible first | refine eQ T1 ?_ | refine eQ P1 ?_)) | ((with_reducible first | refine eK hF ?_ | refine eK hL ?_)) | omega | (with_reducible intro _)))
  all_goals ((try simp only [*, decide_true, decide_false, Bool.true_and, Bool.false_and]); (repeat' (first | (simp (disch := omega) only [push_cast, ↓zz, seval, an_tup]) | omega | (with_reducible refine And.intro ?_ ?_))))
theorem values_4_1 (bs dr tk up sm : Int) (p0 p1 p2 p3 : Part) (sets : List (List Span)) (hs : smallB sm = true) (hS : SetsOk [p0, p1, p2, p3] sets) (e1 : p1.at_ = p0.at_) (e2 : p2.at_ = p0.at_) (n03 : ¬ p0.at_ = p3.at_) :
    PC Try.prog 101 [termV ⟨bs, dr, tk, up, sm, [p0, p1, p2, p3]⟩, guardsV sets] (.tup [spansV (valsL ⟨bs, dr, tk, up, sm, [p0, p1, p2, p3]⟩ sets), .bool (inSym (valsL ⟨bs, dr, tk, up, sm, [p0, p1, p2, p3]⟩ sets))]) := by
  have hg := pure_guards sets
  have b0 := right_at (hS.parts p0 (by simp))
  have b1 := right_at (hS.parts p1 (by simp))
  have b2 := right_at (hS.parts p2 (by simp))
  have b3 := right_at (hS.parts p3 (by simp))
  have A0 := acc_one hs
  obtain ⟨T1, P1, A1⟩ := values_step (a := p0.at_) hS A0 (by omega) (by simp)
  have l1 : atL [p0, p1, p2, p3] p0.at_ = [p0, p1, p2] := by simp [atL, e1, e2, n03, Ne.symm (show p0.at_ ≠ p3.at_ from n03)]
  rw [l1] at T1 P1
  obtain ⟨T2, P2, A2⟩ := values_step (a := p3.at_) hS A1 (by omega) (by simp)
  have l2 : atL [p0, p1, p2, p3] p3.at_ = [p3] := by simp [atL, e1, e2, n03, Ne.symm (show p0.at_ ≠ p3.at_ from n03)]
  rw [l2] at T2 P2
  have hv : valsL ⟨bs, dr, tk, up, sm, [p0, p1, p2, p3]⟩ sets = valsF [p0, p1, p2, p3] sets (valsF [p0, p1, p2, p3] sets ([⟨sm, sm⟩]) p0.at_) p3.at_ := by simp [valsL, placesL, placesF, e1, e2, n03, Ne.symm (show p0.at_ ≠ p3.at_ from n03)]
  rw [hv]
  generalize ho1 : valsF [p0, p1, p2, p3] sets ([⟨sm, sm⟩]) p0.at_ = o1 at *
  generalize ht1 : togL [p0, p1, p2] (nth sets p0.at_.toNat) = t1 at *
  generalize ho2 : valsF [p0, p1, p2, p3] sets (o1) p3.at_ = o2 at *
  generalize ht2 : togL [p3] (nth sets p3.at_.toNat) = t2 at *
  have hF := span_First o2 (by have := A2.2; omega)
  have hL := span_Last o2 (by have := A2.2; omega)
  clear hS hv ho1 ht1 l1 ho2 ht2 l2
  refine pc_w' c_term_values ?_
  unfold B_term_values
  (repeat' (first | (simp (disch := omega) only [push_cast, ↓zz, seval]) | (with_reducible refine And.intro ?_ ?_) | (with_reducible refine condW_split ?_ ?_ <;> intro hc <;> (try simp only [push_cast] at hc)) | (with_reducible refine guardW_split ?_ ?_ <;> intro hc <;> (try simp only [push_cast] at hc)) | omega | (with_reducible intro _)))
  refine LoopK_rounds 6 ?_
  (repeat' (first | (simp (disch := omega) only [push_cast, ↓zz, seval, xx, List.mem_cons, List.not_mem_nil, or_false, false_or, not_or, not_false_eq_true, true_or, or_true, findM, setM, e1, e2, n03]) | (with_reducible refine And.intro ?_ ?_) | (with_reducible refine condW_split ?_ ?_ <;> intro hc <;> (try simp only [push_cast] at hc)) | (with_reducible refine guardW_split ?_ ?_ <;> intro hc <;> (try simp only [push_cast] at hc)) | ((with_reducible refine Rounds_next ?_)) | ((with_reducible refine LoopK_X [1, 5] ?_)) | omega | (with_reducible intro _)))
  refine LoopK_head 6 (fun env => [srcOf 1 (env 6)]) [(1, guardsV sets), (6, .map 0 1), (10, spansV [⟨sm, sm⟩]), (53, .lst 1 [.int .i64 p0.at_, .int .i64 p3.at_]), (54, .int .i64 2), (55, .int .i64 0)] [⟨0, 1, true, [.int .i64 p0.at_, partsV [p0, p1, p2], .int .i64 p3.at_, partsV [p3]]⟩] ?_ ?_
  · (repeat' (first | (simp (disch := omega) only [push_cast, ↓zz, seval, e1, e2, n03]) | (with_reducible refine And.intro ?_ ?_) | (with_reducible refine condW_split ?_ ?_ <;> intro hc <;> (try simp only [push_cast] at hc)) | (with_reducible refine guardW_split ?_ ?_ <;> intro hc <;> (try simp only [push_cast] at hc)) | omega | (with_reducible intro _)))
    all_goals (simp only [partV, e1, e2, n03]; done)
  (repeat' (first | (simp (disch := omega) only [push_cast, ↓zz, seval, findM, inSym, hg, e1, e2, n03]) | (with_reducible refine And.intro ?_ ?_) | (with_reducible refine condW_split ?_ ?_ <;> intro hc <;> (try simp only [push_cast] at hc)) | (with_reducible refine guardW_split ?_ ?_ <;> intro hc <;> (try simp only [push_cast] at hc)) | ((with_reducible refine Rounds_next ?_)) | ((with_reducible first | refine eQ T1 ?_ | refine eQ P1 ?_)) | ((with_reducible first | refine eQ T2 ?_ | refine eQ P2 ?_)) | ((with_reducible first | refine eK hF ?_ | refine eK hL ?_)) | omega | (with_reducible intro _)))
  all_goals ((try simp only [*, decide_true, decide_false, Bool.true_and, Bool.false_and]); (repeat' (first | (simp (disch := omega) only [push_cast, ↓zz, seval, an_tup]) | omega | (with_reducible refine And.intro ?_ ?_))))
theorem values_4_2 (bs dr tk up sm : Int) (p0 p1 p2 p3 : Part) (sets : List (List Span)) (hs : smallB sm = true) (hS : SetsOk [p0, p1, p2, p3] sets) (e1 : p1.at_ = p0.at_) (e3 : p3.at_ = p0.at_) (n02 : ¬ p0.at_ = p2.at_) :
    PC Try.prog 101 [termV ⟨bs, dr, tk, up, sm, [p0, p1, p2, p3]⟩, guardsV sets] (.tup [spansV (valsL ⟨bs, dr, tk, up, sm, [p0, p1, p2, p3]⟩ sets), .bool (inSym (valsL ⟨bs, dr, tk, up, sm, [p0, p1, p2, p3]⟩ sets))]) := by
  have hg := pure_guards sets
  have b0 := right_at (hS.parts p0 (by simp))
  have b1 := right_at (hS.parts p1 (by simp))
  have b2 := right_at (hS.parts p2 (by simp))
  have b3 := right_at (hS.parts p3 (by simp))
  have A0 := acc_one hs
  obtain ⟨T1, P1, A1⟩ := values_step (a := p0.at_) hS A0 (by omega) (by simp)
  have l1 : atL [p0, p1, p2, p3] p0.at_ = [p0, p1, p3] := by simp [atL, e1, e3, n02, Ne.symm (show p0.at_ ≠ p2.at_ from n02)]
  rw [l1] at T1 P1
  obtain ⟨T2, P2, A2⟩ := values_step (a := p2.at_) hS A1 (by omega) (by simp)
  have l2 : atL [p0, p1, p2, p3] p2.at_ = [p2] := by simp [atL, e1, e3, n02, Ne.symm (show p0.at_ ≠ p2.at_ from n02)]
  rw [l2] at T2 P2
  have hv : valsL ⟨bs, dr, tk, up, sm, [p0, p1, p2, p3]⟩ sets = valsF [p0, p1, p2, p3] sets (valsF [p0, p1, p2, p3] sets ([⟨sm, sm⟩]) p0.at_) p2.at_ := by simp [valsL, placesL, placesF, e1, e3, n02, Ne.symm (show p0.at_ ≠ p2.at_ from n02)]
  rw [hv]
  generalize ho1 : valsF [p0, p1, p2, p3] sets ([⟨sm, sm⟩]) p0.at_ = o1 at *
  generalize ht1 : togL [p0, p1, p3] (nth sets p0.at_.toNat) = t1 at *
  generalize ho2 : valsF [p0, p1, p2, p3] sets (o1) p2.at_ = o2 at *
  generalize ht2 : togL [p2] (nth sets p2.at_.toNat) = t2 at *
  have hF := span_First o2 (by have := A2.2; omega)
  have hL := span_Last o2 (by have := A2.2; omega)
  clear hS hv ho1 ht1 l1 ho2 ht2 l2
  refine pc_w' c_term_values ?_
  unfold B_term_values
  (repeat' (first | (simp (disch := omega) only [push_cast, ↓zz, seval]) | (with_reducible refine And.intro ?_ ?_) | (with_reducible refine condW_split ?_ ?_ <;> intro hc <;> (try simp only [push_cast] at hc)) | (with_reducible refine guardW_split ?_ ?_ <;> intro hc <;> (try simp only [push_cast] at hc)) | omega | (with_reducible intro _)))
  refine LoopK_rounds 6 ?_
  (repeat' (first | (simp (disch := omega) only [push_cast, ↓zz, seval, xx, List.mem_cons, List.not_mem_nil, or_false, false_or, not_or, not_false_eq_true, true_or, or_true, findM, setM, e1, e3, n02]) | (with_reducible refine And.intro ?_ ?_) | (with_reducible refine condW_split ?_ ?_ <;> intro hc <;> (try simp only [push_cast] at hc)) | (with_reducible refine guardW_split ?_ ?_ <;> intro hc <;> (try simp only [push_cast] at hc)) | ((with_reducible refine Rounds_next ?_)) | ((with_reducible refine LoopK_X [1, 5] ?_)) | omega | (with_reducible intro _)))
  refine LoopK_head 6 (fun env => [srcOf 1 (env 6)]) [(1, guardsV sets), (6, .map 0 1), (10, spansV [⟨sm, sm⟩]), (53, .lst 1 [.int .i64 p0.at_, .int .i64 p2.at_]), (54, .int .i64 2), (55, .int .i64 0)] [⟨0, 1, true, [.int .i64 p0.at_, partsV [p0, p1, p3], .int .i64 p2.at_, partsV [p2]]⟩] ?_ ?_
  · (repeat' (first | (simp (disch := omega) only [push_cast, ↓zz, seval, e1, e3, n02]) | (with_reducible refine And.intro ?_ ?_) | (with_reducible refine condW_split ?_ ?_ <;> intro hc <;> (try simp only [push_cast] at hc)) | (with_reducible refine guardW_split ?_ ?_ <;> intro hc <;> (try simp only [push_cast] at hc)) | omega | (with_reducible intro _)))
    all_goals (simp only [partV, e1, e3, n02]; done)
  (repeat' (first | (simp (disch := omega) only [push_cast, ↓zz, seval, findM, inSym, hg, e1, e3, n02]) | (with_reducible refine And.intro ?_ ?_) | (with_reducible refine condW_split ?_ ?_ <;> intro hc <;> (try simp only [push_cast] at hc)) | (with_reducible refine guardW_split ?_ ?_ <;> intro hc <;> (try simp only [push_cast] at hc)) | ((with_reducible refine Rounds_next ?_)) | ((with_reducible first | refine eQ T1 ?_ | refine eQ P1 ?_)) | ((with_reducible first | refine eQ T2 ?_ | refine eQ P2 ?_)) | ((with_reducible first | refine eK hF ?_ | refine eK hL ?_)) | omega | (with_reducible intro _)))
  all_goals ((try simp only [*, decide_true, decide_false, Bool.true_and, Bool.false_and]); (repeat' (first | (simp (disch := omega) only [push_cast, ↓zz, seval, an_tup]) | omega | (with_reducible refine And.intro ?_ ?_))))
theorem values_4_3 (bs dr tk up sm : Int) (p0 p1 p2 p3 : Part) (sets : List (List Span)) (hs : smallB sm = true) (hS : SetsOk [p0, p1, p2, p3] sets) (e1 : p1.at_ = p0.at_) (e3 : p3.at_ = p2.at_) (n02 : ¬ p0.at_ = p2.at_) :
    PC Try.prog 101 [termV ⟨bs, dr, tk, up, sm, [p0, p1, p2, p3]⟩, guardsV sets] (.tup [spansV (valsL ⟨bs, dr, tk, up, sm, [p0, p1, p2, p3]⟩ sets), .bool (inSym (valsL ⟨bs, dr, tk, up, sm, [p0, p1, p2, p3]⟩ sets))]) := by
  have hg := pure_guards sets
  have b0 := right_at (hS.parts p0 (by simp))
  have b1 := right_at (hS.parts p1 (by simp))
  have b2 := right_at (hS.parts p2 (by simp))
  have b3 := right_at (hS.parts p3 (by simp))
  have A0 := acc_one hs
  obtain ⟨T1, P1, A1⟩ := values_step (a := p0.at_) hS A0 (by omega) (by simp)
  have l1 : atL [p0, p1, p2, p3] p0.at_ = [p0, p1] := by simp [atL, e1, e3, n02, Ne.symm (show p0.at_ ≠ p2.at_ from n02)]
  rw [l1] at T1 P1
  obtain ⟨T2, P2, A2⟩ := values_step (a := p2.at_) hS A1 (by omega) (by simp)
  have l2 : atL [p0, p1, p2, p3] p2.at_ = [p2, p3] := by simp [atL, e1, e3, n02, Ne.symm (show p0.at_ ≠ p2.at_ from n02)]
  rw [l2] at T2 P2
  have hv : valsL ⟨bs, dr, tk, up, sm, [p0, p1, p2, p3]⟩ sets = valsF [p0, p1, p2, p3] sets (valsF [p0, p1, p2, p3] sets ([⟨sm, sm⟩]) p0.at_) p2.at_ := by simp [valsL, placesL, placesF, e1, e3, n02, Ne.symm (show p0.at_ ≠ p2.at_ from n02)]
  rw [hv]
  generalize ho1 : valsF [p0, p1, p2, p3] sets ([⟨sm, sm⟩]) p0.at_ = o1 at *
  generalize ht1 : togL [p0, p1] (nth sets p0.at_.toNat) = t1 at *
  generalize ho2 : valsF [p0, p1, p2, p3] sets (o1) p2.at_ = o2 at *
  generalize ht2 : togL [p2, p3] (nth sets p2.at_.toNat) = t2 at *
  have hF := span_First o2 (by have := A2.2; omega)
  have hL := span_Last o2 (by have := A2.2; omega)
  clear hS hv ho1 ht1 l1 ho2 ht2 l2
  refine pc_w' c_term_values ?_
  unfold B_term_values
  (repeat' (first | (simp (disch := omega) only [push_cast, ↓zz, seval]) | (with_reducible refine And.intro ?_ ?_) | (with_reducible refine condW_split ?_ ?_ <;> intro hc <;> (try simp only [push_cast] at hc)) | (with_reducible refine guardW_split ?_ ?_ <;> intro hc <;> (try simp only [push_cast] at hc)) | omega | (with_reducible intro _)))
  refine LoopK_rounds 6 ?_
  (repeat' (first | (simp (disch := omega) only [push_cast, ↓zz, seval, xx, List.mem_cons, List.not_mem_nil, or_false, false_or, not_or, not_false_eq_true, true_or, or_true, findM, setM, e1, e3, n02]) | (with_reducible refine And.intro ?_ ?_) | (with_reducible refine condW_split ?_ ?_ <;> intro hc <;> (try simp only [push_cast] at hc)) | (with_reducible refine guardW_split ?_ ?_ <;> intro hc <;> (try simp only [push_cast] at hc)) | ((with_reducible refine Rounds_next ?_)) | ((with_reducible refine LoopK_X [1, 5, 9] ?_)) | omega | (with_reducible intro _)))
  refine LoopK_head 6 (fun env => [srcOf 1 (env 6)]) [(1, guardsV sets), (6, .map 0 1), (10, spansV [⟨sm, sm⟩]), (53, .lst 1 [.int .i64 p0.at_, .int .i64 p2.at_]), (54, .int .i64 2), (55, .int .i64 0)] [⟨0, 1, true, [.int .i64 p0.at_, partsV [p0, p1], .int .i64 p2.at_, partsV [p2, p3]]⟩] ?_ ?_
  · (repeat' (first | (simp (disch := omega) only [push_cast, ↓zz, seval, e1, e3, n02]) | (with_reducible refine And.intro ?_ ?_) | (with_reducible refine condW_split ?_ ?_ <;> intro hc <;> (try simp only [push_cast] at hc)) | (with_reducible refine guardW_split ?_ ?_ <;> intro hc <;> (try simp only [push_cast] at hc)) | omega | (with_reducible intro _)))
    all_goals (simp only [partV, e1, e3, n02]; done)
  (repeat' (first | (simp (disch := omega) only [push_cast, ↓zz, seval, findM, inSym, hg, e1, e3, n02]) | (with_reducible refine And.intro ?_ ?_) | (with_reducible refine condW_split ?_ ?_ <;> intro hc <;> (try simp only [push_cast] at hc)) | (with_reducible refine guardW_split ?_ ?_ <;> intro hc <;> (try simp only [push_cast] at hc)) | ((with_reducible refine Rounds_next ?_)) | ((with_reducible first | refine eQ T1 ?_ | refine eQ P1 ?_)) | ((with_reducible first | refine eQ T2 ?_ | refine eQ P2 ?_)) | ((with_reducible first | refine eK hF ?_ | refine eK hL ?_)) | omega | (with_reducible intro _)))
  all_goals ((try simp only [*, decide_true, decide_false, Bool.true_and, Bool.false_and]); (repeat' (first | (simp (disch := omega) only [push_cast, ↓zz, seval, an_tup]) | omega | (with_reducible refine And.intro ?_ ?_))))
theorem values_4_4 (bs dr tk up sm : Int) (p0 p1 p2 p3 : Part) (sets : List (List Span)) (hs : smallB sm = true) (hS : SetsOk [p0, p1, p2, p3] sets) (e1 : p1.at_ = p0.at_) (n02 : ¬ p0.at_ = p2.at_) (n03 : ¬ p0.at_ = p3.at_) (n23 : ¬ p2.at_ = p3.at_) :
    PC Try.prog 101 [termV ⟨bs, dr, tk, up, sm, [p0, p1, p2, p3]⟩, guardsV sets] (.tup [spansV (valsL ⟨bs, dr, tk, up, sm, [p0, p1, p2, p3]⟩ sets), .bool (inSym (valsL ⟨bs, dr, tk, up, sm, [p0, p1, p2, p3]⟩ sets))]) := by
  have hg := pure_guards sets
  have b0 := right_at (hS.parts p0 (by simp))
  have b1 := right_at (hS.parts p1 (by simp))
  have b2 := right_at (hS.parts p2 (by simp))
  have b3 := right_at (hS.parts p3 (by simp))
  have A0 := acc_one hs
  obtain ⟨T1, P1, A1⟩ := values_step (a := p0.at_) hS A0 (by omega) (by simp)
  have l1 : atL [p0, p1, p2, p3] p0.at_ = [p0, p1] := by simp [atL, e1, n02, n03, n23, Ne.symm (show p0.at_ ≠ p2.at_ from n02), Ne.symm (show p0.at_ ≠ p3.at_ from n03), Ne.symm (show p2.at_ ≠ p3.at_ from n23)]
  rw [l1] at T1 P1
  obtain ⟨T2, P2, A2⟩ := values_step (a := p2.at_) hS A1 (by omega) (by simp)
  have l2 : atL [p0, p1, p2, p3] p2.at_ = [p2] := by simp [atL, e1, n02, n03, n23, Ne.symm (show p0.at_ ≠ p2.at_ from n02), Ne.symm (show p0.at_ ≠ p3.at_ from n03), Ne.symm (show p2.at_ ≠ p3.at_ from n23)]
  rw [l2] at T2 P2
  obtain ⟨T3, P3, A3⟩ := values_step (a := p3.at_) hS A2 (by omega) (by simp)
  have l3 : atL [p0, p1, p2, p3] p3.at_ = [p3] := by simp [atL, e1, n02, n03, n23, Ne.symm (show p0.at_ ≠ p2.at_ from n02), Ne.symm (show p0.at_ ≠ p3.at_ from n03), Ne.symm (show p2.at_ ≠ p3.at_ from n23)]
  rw [l3] at T3 P3
  have hv : valsL ⟨bs, dr, tk, up, sm, [p0, p1, p2, p3]⟩ sets = valsF [p0, p1, p2, p3] sets (valsF [p0, p1, p2, p3] sets (valsF [p0, p1, p2, p3] sets ([⟨sm, sm⟩]) p0.at_) p2.at_) p3.at_ := by simp [valsL, placesL, placesF, e1, n02, n03, n23, Ne.symm (show p0.at_ ≠ p2.at_ from n02), Ne.symm (show p0.at_ ≠ p3.at_ from n03), Ne.symm (show p2.at_ ≠ p3.at_ from n23)]
  rw [hv]
  generalize ho1 : valsF [p0, p1, p2, p3] sets ([⟨sm, sm⟩]) p0.at_ = o1 at *
  generalize ht1 : togL [p0, p1] (nth sets p0.at_.toNat) = t1 at *
  generalize ho2 : valsF [p0, p1, p2, p3] sets (o1) p2.at_ = o2 at *
  generalize ht2 : togL [p2] (nth sets p2.at_.toNat) = t2 at *
  generalize ho3 : valsF [p0, p1, p2, p3] sets (o2) p3.at_ = o3 at *
  generalize ht3 : togL [p3] (nth sets p3.at_.toNat) = t3 at *
  have hF := span_First o3 (by have := A3.2; omega)
  have hL := span_Last o3 (by have := A3.2; omega)
  clear hS hv ho1 ht1 l1 ho2 ht2 l2 ho3 ht3 l3
  refine pc_w' c_term_values ?_
  unfold B_term_values
  (repeat' (first | (simp (disch := omega) only [push_cast, ↓zz, seval]) | (with_reducible refine And.intro ?_ ?_) | (with_reducible refine condW_split ?_ ?_ <;> intro hc <;> (try simp only [push_cast] at hc)) | (with_reducible refine guardW_split ?_ ?_ <;> intro hc <;> (try simp only [push_cast] at hc)) | omega | (with_reducible intro _)))
  refine LoopK_rounds 6 ?_
  (repeat' (first | (simp (disch := omega) only [push_cast, ↓zz, seval, xx, List.mem_cons, List.not_mem_nil, or_false, false_or, not_or, not_false_eq_true, true_or, or_true, findM, setM, e1, n02, n03, n23]) | (with_reducible refine And.intro ?_ ?_) | (with_reducible refine condW_split ?_ ?_ <;> intro hc <;> (try simp only [push_cast] at hc)) | (with_reducible refine guardW_split ?_ ?_ <;> intro hc <;> (try simp only [push_cast] at hc)) | ((with_reducible refine Rounds_next ?_)) | ((with_reducible refine LoopK_X [1, 5] ?_)) | omega | (with_reducible intro _)))
  refine LoopK_head 6 (fun env => [srcOf 1 (env 6)]) [(1, guardsV sets), (6, .map 0 1), (10, spansV [⟨sm, sm⟩]), (53, .lst 1 [.int .i64 p0.at_, .int .i64 p2.at_, .int .i64 p3.at_]), (54, .int .i64 3), (55, .int .i64 0)] [⟨0, 1, true, [.int .i64 p0.at_, partsV [p0, p1], .int .i64 p2.at_, partsV [p2], .int .i64 p3.at_, partsV [p3]]⟩] ?_ ?_
  · (repeat' (first | (simp (disch := omega) only [push_cast, ↓zz, seval, e1, n02, n03, n23]) | (with_reducible refine And.intro ?_ ?_) | (with_reducible refine condW_split ?_ ?_ <;> intro hc <;> (try simp only [push_cast] at hc)) | (with_reducible refine guardW_split ?_ ?_ <;> intro hc <;> (try simp only [push_cast] at hc)) | omega | (with_reducible intro _)))
    all_goals (simp only [partV, e1, n02, n03, n23]; done)
  (repeat' (first | (simp (disch := omega) only [push_cast, ↓zz, seval, findM, inSym, hg, e1, n02, n03, n23]) | (with_reducible refine And.intro ?_ ?_) | (with_reducible refine condW_split ?_ ?_ <;> intro hc <;> (try simp only [push_cast] at hc)) | (with_reducible refine guardW_split ?_ ?_ <;> intro hc <;> (try simp only [push_cast] at hc)) | ((with_reducible refine Rounds_next ?_)) | ((with_reducible first | refine eQ T1 ?_ | refine eQ P1 ?_)) | ((with_reducible first | refine eQ T2 ?_ | refine eQ P2 ?_)) | ((with_reducible first | refine eQ T3 ?_ | refine eQ P3 ?_)) | ((with_reducible first | refine eK hF ?_ | refine eK hL ?_)) | omega | (with_reducible intro _)))
  all_goals ((try simp only [*, decide_true, decide_false, Bool.true_and, Bool.false_and]); (repeat' (first | (simp (disch := omega) only [push_cast, ↓zz, seval, an_tup]) | omega | (with_reducible refine And.intro ?_ ?_))))
theorem values_4_5 (bs dr tk up sm : Int) (p0 p1 p2 p3 : Part) (sets : List (List Span)) (hs : smallB sm = true) (hS : SetsOk [p0, p1, p2, p3] sets) (e2 : p2.at_ = p0.at_) (e3 : p3.at_ = p0.at_) (n01 : ¬ p0.at_ = p1.at_) :
    PC Try.prog 101 [termV ⟨bs, dr, tk, up, sm, [p0, p1, p2, p3]⟩, guardsV sets] (.tup [spansV (valsL ⟨bs, dr, tk, up, sm, [p0, p1, p2, p3]⟩ sets), .bool (inSym (valsL ⟨bs, dr, tk, up, sm, [p0, p1, p2, p3]⟩ sets))]) := by
  have hg := pure_guards sets
  have b0 := right_at (hS.parts p0 (by simp))
  have b1 := right_at (hS.parts p1 (by simp))
  have b2 := right_at (hS.parts p2 (by simp))
  have b3 := right_at (hS.parts p3 (by simp))
  have A0 := acc_one hs
  obtain ⟨T1, P1, A1⟩ := values_step (a := p0.at_) hS A0 (by omega) (by simp)
  have l1 : atL [p0, p1, p2, p3] p0.at_ = [p0, p2, p3] := by simp [atL, e2, e3, n01, Ne.symm (show p0.at_ ≠ p1.at_ from n01)]
  rw [l1] at T1 P1
  obtain ⟨T2, P2, A2⟩ := values_step (a := p1.at_) hS A1 (by omega) (by simp)
  have l2 : atL [p0, p1, p2, p3] p1.at_ = [p1] := by simp [atL, e2, e3, n01, Ne.symm (show p0.at_ ≠ p1.at_ from n01)]
  rw [l2] at T2 P2
  have hv : valsL ⟨bs, dr, tk, up, sm, [p0, p1, p2, p3]⟩ sets = valsF [p0, p1, p2, p3] sets (valsF [p0, p1, p2, p3] sets ([⟨sm, sm⟩]) p0.at_) p1.at_ := by simp [valsL, placesL, placesF, e2, e3, n01, Ne.symm (show p0.at_ ≠ p1.at_ from n01)]
  rw [hv]
  generalize ho1 : valsF [p0, p1, p2, p3] sets ([⟨sm, sm⟩]) p0.at_ = o1 at *
  generalize ht1 : togL [p0, p2, p3] (nth sets p0.at_.toNat) = t1 at *
  generalize ho2 : valsF [p0, p1, p2, p3] sets (o1) p1.at_ = o2 at *
  generalize ht2 : togL [p1] (nth sets p1.at_.toNat) = t2 at *
  have hF := span_First o2 (by have := A2.2; omega)
  have hL := span_Last o2 (by have := A2.2; omega)
  clear hS hv ho1 ht1 l1 ho2 ht2 l2
  refine pc_w' c_term_values ?_
  unfold B_term_values
  (repeat' (first | (simp (disch := omega) only [push_cast, ↓zz, seval]) | (with_reducible refine And.intro ?_ ?_) | (with_reducible refine condW_split ?_ ?_ <;> intro hc <;> (try simp only [push_cast] at hc)) | (with_reducible refine guardW_split ?_ ?_ <;> intro hc <;> (try simp only [push_cast] at hc)) | omega | (with_reducible intro _)))
  refine LoopK_rounds 6 ?_
  (repeat' (first | (simp (disch := omega) only [push_cast, ↓zz, seval, xx, List.mem_cons, List.not_mem_nil, or_false, false_or, not_or, not_false_eq_true, true_or, or_true, findM, setM, e2, e3, n01]) | (with_reducible refine And.intro ?_ ?_) | (with_reducible refine condW_split ?_ ?_ <;> intro hc <;> (try simp only [push_cast] at hc)) | (with_reducible refine guardW_split ?_ ?_ <;> intro hc <;> (try simp only [push_cast] at hc)) | ((with_reducible refine Rounds_next ?_)) | ((with_reducible refine LoopK_X [1, 5] ?_)) | omega | (with_reducible intro _)))
  refine LoopK_head 6 (fun env => [srcOf 1 (env 6)]) [(1, guardsV sets), (6, .map 0 1), (10, spansV [⟨sm, sm⟩]), (53, .lst 1 [.int .i64 p0.at_, .int .i64 p1.at_]), (54, .int .i64 2), (55, .int .i64 0)] [⟨0, 1, true, [.int .i64 p0.at_, partsV [p0, p2, p3], .int .i64 p1.at_, partsV [p1]]⟩] ?_ ?_
  · (repeat' (first | (simp (disch := omega) only [push_cast, ↓zz, seval, e2, e3, n01]) | (with_reducible refine And.intro ?_ ?_) | (with_reducible refine condW_split ?_ ?_ <;> intro hc <;> (try simp only [push_cast] at hc)) | (with_reducible refine guardW_split ?_ ?_ <;> intro hc <;> (try simp only [push_cast] at hc)) | omega | (with_reducible intro _)))
    all_goals (simp only [partV, e2, e3, n01]; done)
  (repeat' (first | (simp (disch := omega) only [push_cast, ↓zz, seval, findM, inSym, hg, e2, e3, n01]) | (with_reducible refine And.intro ?_ ?_) | (with_reducible refine condW_split ?_ ?_ <;> intro hc <;> (try simp only [push_cast] at hc)) | (with_reducible refine guardW_split ?_ ?_ <;> intro hc <;> (try simp only [push_cast] at hc)) | ((with_reducible refine Rounds_next ?_)) | ((with_reducible first | refine eQ T1 ?_ | refine eQ P1 ?_)) | ((with_reducible first | refine eQ T2 ?_ | refine eQ P2 ?_)) | ((with_reducible first | refine eK hF ?_ | refine eK hL ?_)) | omega | (with_reducible intro _)))
  all_goals ((try simp only [*, decide_true, decide_false, Bool.true_and, Bool.false_and]); (repeat' (first | (simp (disch := omega) only [push_cast, ↓zz, seval, an_tup]) | omega | (with_reducible refine And.intro ?_ ?_))))
theorem values_4_6 (bs dr tk up sm : Int) (p0 p1 p2 p3 : Part) (sets : List (List Span)) (hs : smallB sm = true) (hS : SetsOk [p0, p1, p2, p3] sets) (e2 : p2.at_ = p0.at_) (e3 : p3.at_ = p1.at_) (n01 : ¬ p0.at_ = p1.at_) :
    PC Try.prog 101 [termV ⟨bs, dr, tk, up, sm, [p0, p1, p2, p3]⟩, guardsV sets] (.tup [spansV (valsL ⟨bs, dr, tk, up, sm, [p0, p1, p2, p3]⟩ sets), .bool (inSym (valsL ⟨bs, dr, tk, up, sm, [p0, p1, p2, p3]⟩ sets))]) := by
  have hg := pure_guards sets
  have b0 := right_at (hS.parts p0 (by simp))
  have b1 := right_at (hS.parts p1 (by simp))
  have b2 := right_at (hS.parts p2 (by simp))
  have b3 := right_at (hS.parts p3 (by simp))
  have A0 := acc_one hs
  obtain ⟨T1, P1, A1⟩ := values_step (a := p0.at_) hS A0 (by omega) (by simp)
  have l1 : atL [p0, p1, p2, p3] p0.at_ = [p0, p2] := by simp [atL, e2, e3, n01, Ne.symm (show p0.at_ ≠ p1.at_ from n01)]
  rw [l1] at T1 P1
  obtain ⟨T2, P2, A2⟩ := values_step (a := p1.at_) hS A1 (by omega) (by simp)
  have l2 : atL [p0, p1, p2, p3] p1.at_ = [p1, p3] := by simp [atL, e2, e3, n01, Ne.symm (show p0.at_ ≠ p1.at_ from n01)]
  rw [l2] at T2 P2
  have hv : valsL ⟨bs, dr, tk, up, sm, [p0, p1, p2, p3]⟩ sets = valsF [p0, p1, p2, p3] sets (valsF [p0, p1, p2, p3] sets ([⟨sm, sm⟩]) p0.at_) p1.at_ := by simp [valsL, placesL, placesF, e2, e3, n01, Ne.symm (show p0.at_ ≠ p1.at_ from n01)]
  rw [hv]
  generalize ho1 : valsF [p0, p1, p2, p3] sets ([⟨sm, sm⟩]) p0.at_ = o1 at *
  generalize ht1 : togL [p0, p2] (nth sets p0.at_.toNat) = t1 at *
  generalize ho2 : valsF [p0, p1, p2, p3] sets (o1) p1.at_ = o2 at *
  generalize ht2 : togL [p1, p3] (nth sets p1.at_.toNat) = t2 at *
  have hF := span_First o2 (by have := A2.2; omega)
  have hL := span_Last o2 (by have := A2.2; omega)
  clear hS hv ho1 ht1 l1 ho2 ht2 l2
  refine pc_w' c_term_values ?_
  unfold B_term_values
  (repeat' (first | (simp (disch := omega) only [push_cast, ↓zz, seval]) | (with_reducible refine And.intro ?_ ?_) | (with_reducible refine condW_split ?_ ?_ <;> intro hc <;> (try simp only [push_cast] at hc)) | (with_reducible refine guardW_split ?_ ?_ <;> intro hc <;> (try simp only [push_cast] at hc)) | omega | (with_reducible intro _)))
  refine LoopK_rounds 6 ?_
  (repeat' (first | (simp (disch := omega) only [push_cast, ↓zz, seval, xx, List.mem_cons, List.not_mem_nil, or_false, false_or, not_or, not_false_eq_true, true_or, or_true, findM, setM, e2, e3, n01]) | (with_reducible refine And.intro ?_ ?_) | (with_reducible refine condW_split ?_ ?_ <;> intro hc <;> (try simp only [push_cast] at hc)) | (with_reducible refine guardW_split ?_ ?_ <;> intro hc <;> (try simp only [push_cast] at hc)) | ((with_reducible refine Rounds_next ?_)) | ((with_reducible refine LoopK_X [1, 5, 8] ?_)) | omega | (with_reducible intro _)))
  refine LoopK_head 6 (fun env => [srcOf 1 (env 6)]) [(1, guardsV sets), (6, .map 0 1), (10, spansV [⟨sm, sm⟩]), (53, .lst 1 [.int .i64 p0.at_, .int .i64 p1.at_]), (54, .int .i64 2), (55, .int .i64 0)] [⟨0, 1, true, [.int .i64 p0.at_, partsV [p0, p2], .int .i64 p1.at_, partsV [p1, p3]]⟩] ?_ ?_
  · (repeat' (first | (simp (disch := omega) only [push_cast, ↓zz, seval, e2, e3, n01]) | (with_reducible refine And.intro ?_ ?_) | (with_reducible refine condW_split ?_ ?_ <;> intro hc <;> (try simp only [push_cast] at hc)) | (with_reducible refine guardW_split ?_ ?_ <;> intro hc <;> (try simp only [push_cast] at hc)) | omega | (with_reducible intro _)))
    all_goals (simp only [partV, e2, e3, n01]; done)
  (repeat' (first | (simp (disch := omega) only [push_cast, ↓zz, seval, findM, inSym, hg, e2, e3, n01]) | (with_reducible refine And.intro ?_ ?_) | (with_reducible refine condW_split ?_ ?_ <;> intro hc <;> (try simp only [push_cast] at hc)) | (with_reducible refine guardW_split ?_ ?_ <;> intro hc <;> (try simp only [push_cast] at hc)) | ((with_reducible refine Rounds_next ?_)) | ((with_reducible first | refine eQ T1 ?_ | refine eQ P1 ?_)) | ((with_reducible first | refine eQ T2 ?_ | refine eQ P2 ?_)) | ((with_reducible first | refine eK hF ?_ | refine eK hL ?_)) | omega | (with_reducible intro _)))
  all_goals ((try simp only [*, decide_true, decide_false, Bool.true_and, Bool.false_and]); (repeat' (first | (simp (disch := omega) only [push_cast, ↓zz, seval, an_tup]) | omega | (with_reducible refine And.intro ?_ ?_))))
theorem values_4_7 (bs dr tk up sm : Int) (p0 p1 p2 p3 : Part) (sets : List (List Span)) (hs : smallB sm = true) (hS : SetsOk [p0, p1, p2, p3] sets) (e2 : p2.at_ = p0.at_) (n01 : ¬ p0.at_ = p1.at_) (n03 : ¬ p0.at_ = p3.at_) (n13 : ¬ p1.at_ = p3.at_) :
    PC Try.prog 101 [termV ⟨bs, dr, tk, up, sm, [p0, p1, p2, p3]⟩, guardsV sets] (.tup [spansV (valsL ⟨bs, dr, tk, up, sm, [p0, p1, p2, p3]⟩ sets), .bool (inSym (valsL ⟨bs, dr, tk, up, sm, [p0, p1, p2, p3]⟩ sets))]) := by
  have hg := pure_guards sets
  have b0 := right_at (hS.parts p0 (by simp))
  have b1 := right_at (hS.parts p1 (by simp))
  have b2 := right_at (hS.parts p2 (by simp))
  have b3 := right_at (hS.parts p3 (by simp))
  have A0 := acc_one hs
  obtain ⟨T1, P1, A1⟩ := values_step (a := p0.at_) hS A0 (by omega) (by simp)
  have l1 : atL [p0, p1, p2, p3] p0.at_ = [p0, p2] := by simp [atL, e2, n01, n03, n13, Ne.symm (show p0.at_ ≠ p1.at_ from n01), Ne.symm (show p0.at_ ≠ p3.at_ from n03), Ne.symm (show p1.at_ ≠ p3.at_ from n13)]
  rw [l1] at T1 P1
  obtain ⟨T2, P2, A2⟩ := values_step (a := p1.at_) hS A1 (by omega) (by simp)
  have l2 : atL [p0, p1, p2, p3] p1.at_ = [p1] := by simp [atL, e2, n01, n03, n13, Ne.symm (show p0.at_ ≠ p1.at_ from n01), Ne.symm (show p0.at_ ≠ p3.at_ from n03), Ne.symm (show p1.at_ ≠ p3.at_ from n13)]
  rw [l2] at T2 P2
  obtain ⟨T3, P3, A3⟩ := values_step (a := p3.at_) hS A2 (by omega) (by simp)
  have l3 : atL [p0, p1, p2, p3] p3.at_ = [p3] := by simp [atL, e2, n01, n03, n13, Ne.symm (show p0.at_ ≠ p1.at_ from n01), Ne.symm (show p0.at_ ≠ p3.at_ from n03), Ne.symm (show p1.at_ ≠ p3.at_ from n13)]
  rw [l3] at T3 P3
  have hv : valsL ⟨bs, dr, tk, up, sm, [p0, p1, p2, p3]⟩ sets = valsF [p0, p1, p2, p3] sets (valsF [p0, p1, p2, p3] sets (valsF [p0, p1, p2, p3] sets ([⟨sm, sm⟩]) p0.at_) p1.at_) p3.at_ := by simp [valsL, placesL, placesF, e2, n01, n03, n13, Ne.symm (show p0.at_ ≠ p1.at_ from n01), Ne.symm (show p0.at_ ≠ p3.at_ from n03), Ne.symm (show p1.at_ ≠ p3.at_ from n13)]
  rw [hv]
  generalize ho1 : valsF [p0, p1, p2, p3] sets ([⟨sm, sm⟩]) p0.at_ = o1 at *
  generalize ht1 : togL [p0, p2] (nth sets p0.at_.toNat) = t1 at *
  generalize ho2 : valsF [p0, p1, p2, p3] sets (o1) p1.at_ = o2 at *
  generalize ht2 : togL [p1] (nth sets p1.at_.toNat) = t2 at *
  generalize ho3 : valsF [p0, p1, p2, p3] sets (o2) p3.at_ = o3 at *
  generalize ht3 : togL [p3] (nth sets p3.at_.toNat) = t3 at *
  have hF := span_First o3 (by have := A3.2; omega)
  have hL := span_Last o3 (by have := A3.2; omega)
  clear hS hv ho1 ht1 l1 ho2 ht2 l2 ho3 ht3 l3
  refine pc_w' c_term_values ?_
  unfold B_term_values
  (repeat' (first | (simp (disch := omega) only [push_cast, ↓zz, seval]) | (with_reducible refine And.intro ?_ ?_) | (with_reducible refine condW_split ?_ ?_ <;> intro hc <;> (try simp only [push_cast] at hc)) | (with_reducible refine guardW_split ?_ ?_ <;> intro hc <;> (try simp only [push_cast] at hc)) | omega | (with_reducible intro _)))
  refine LoopK_rounds 6 ?_
  (repeat' (first | (simp (disch := omega) only [push_cast, ↓zz, seval, xx, List.mem_cons, List.not_mem_nil, or_false, false_or, not_or, not_false_eq_true, true_or, or_true, findM, setM, e2, n01, n03, n13]) | (with_reducible refine And.intro ?_ ?_) | (with_reducible refine condW_split ?_ ?_ <;> intro hc <;> (try simp only [push_cast] at hc)) | (with_reducible refine guardW_split ?_ ?_ <;> intro hc <;> (try simp only [push_cast] at hc)) | ((with_reducible refine Rounds_next ?_)) | ((with_reducible refine LoopK_X [1, 5] ?_)) | omega | (with_reducible intro _)))
  refine LoopK_head 6 (fun env => [srcOf 1 (env 6)]) [(1, guardsV sets), (6, .map 0 1), (10, spansV [⟨sm, sm⟩]), (53, .lst 1 [.int .i64 p0.at_, .int .i64 p1.at_, .int .i64 p3.at_]), (54, .int .i64 3), (55, .int .i64 0)] [⟨0, 1, true, [.int .i64 p0.at_, partsV [p0, p2], .int .i64 p1.at_, partsV [p1], .int .i64 p3.at_, partsV [p3]]⟩] ?_ ?_
  · (repeat' (first | (simp (disch := omega) only [push_cast, ↓zz, seval, e2, n01, n03, n13]) | (with_reducible refine And.intro ?_ ?_) | (with_reducible refine condW_split ?_ ?_ <;> intro hc <;> (try simp only [push_cast] at hc)) | (with_reducible refine guardW_split ?_ ?_ <;> intro hc <;> (try simp only [push_cast] at hc)) | omega | (with_reducible intro _)))
    all_goals (simp only [partV, e2, n01, n03, n13]; done)
  (repeat' (first | (simp (disch := omega) only [push_cast, ↓zz, seval, findM, inSym, hg, e2, n01, n03, n13]) | (with_reducible refine And.intro ?_ ?_) | (with_reducible refine condW_split ?_ ?_ <;> intro hc <;> (try simp only [push_cast] at hc)) | (with_reducible refine guardW_split ?_ ?_ <;> intro hc <;> (try simp only [push_cast] at hc)) | ((with_reducible refine Rounds_next ?_)) | ((with_reducible first | refine eQ T1 ?_ | refine eQ P1 ?_)) | ((with_reducible first | refine eQ T2 ?_ | refine eQ P2 ?_)) | ((with_reducible first | refine eQ T3 ?_ | refine eQ P3 ?_)) | ((with_reducible first | refine eK hF ?_ | refine eK hL ?_)) | omega | (with_reducible intro _)))
  all_goals ((try simp only [*, decide_true, decide_false, Bool.true_and, Bool.false_and]); (repeat' (first | (simp (disch := omega) only [push_cast, ↓zz, seval, an_tup]) | omega | (with_reducible refine And.intro ?_ ?_))))
theorem values_4_8 (bs dr tk up sm : Int) (p0 p1 p2 p3 : Part) (sets : List (List Span)) (hs : smallB sm = true) (hS : SetsOk [p0, p1, p2, p3] sets) (e2 : p2.at_ = p1.at_) (e3 : p3.at_ = p0.at_) (n01 : ¬ p0.at_ = p1.at_) :
    PC Try.prog 101 [termV ⟨bs, dr, tk, up, sm, [p0, p1, p2, p3]⟩, guardsV sets] (.tup [spansV (valsL ⟨bs, dr, tk, up, sm, [p0, p1, p2, p3]⟩ sets), .bool (inSym (valsL ⟨bs, dr, tk, up, sm, [p0, p1, p2, p3]⟩ sets))]) := by
  have hg := pure_guards sets
  have b0 := right_at (hS.parts p0 (by simp))
  have b1 := right_at (hS.parts p1 (by simp))
  have b2 := right_at (hS.parts p2 (by simp))
  have b3 := right_at (hS.parts p3 (by simp))
  have A0 := acc_one hs
  obtain ⟨T1, P1, A1⟩ := values_step (a := p0.at_) hS A0 (by omega) (by simp)
  have l1 : atL [p0, p1, p2, p3] p0.at_ = [p0, p3] := by simp [atL, e2, e3, n01, Ne.symm (show p0.at_ ≠ p1.at_ from n01)]
  rw [l1] at T1 P1
  obtain ⟨T2, P2, A2⟩ := values_step (a := p1.at_) hS A1 (by omega) (by simp)
  have l2 : atL [p0, p1, p2, p3] p1.at_ = [p1, p2] := by simp [atL, e2, e3, n01, Ne.symm (show p0.at_ ≠ p1.at_ from n01)]
  rw [l2] at T2 P2
  have hv : valsL ⟨bs, dr, tk, up, sm, [p0, p1, p2, p3]⟩ sets = valsF [p0, p1, p2, p3] sets (valsF [p0, p1, p2, p3] sets ([⟨sm, sm⟩]) p0.at_) p1.at_ := by simp [valsL, placesL, placesF, e2, e3, n01, Ne.symm (show p0.at_ ≠ p1.at_ from n01)]
  rw [hv]
  generalize ho1 : valsF [p0, p1, p2, p3] sets ([⟨sm, sm⟩]) p0.at_ = o1 at *
  generalize ht1 : togL [p0, p3] (nth sets p0.at_.toNat) = t1 at *
  generalize ho2 : valsF [p0, p1, p2, p3] sets (o1) p1.at_ = o2 at *
  generalize ht2 : togL [p1, p2] (nth sets p1.at_.toNat) = t2 at *
  have hF := span_First o2 (by have := A2.2; omega)
  have hL := span_Last o2 (by have := A2.2; omega)
  clear hS hv ho1 ht1 l1 ho2 ht2 l2
  refine pc_w' c_term_values ?_
  unfold B_term_values
  (repeat' (first | (simp (disch := omega) only [push_cast, ↓zz, seval]) | (with_reducible refine And.intro ?_ ?_) | (with_reducible refine condW_split ?_ ?_ <;> intro hc <;> (try simp only [push_cast] at hc)) | (with_reducible refine guardW_split ?_ ?_ <;> intro hc <;> (try simp only [push_cast] at hc)) | omega | (with_reducible intro _)))
  refine LoopK_rounds 6 ?_
  (repeat' (first | (simp (disch := omega) only [push_cast, ↓zz, seval, xx, List.mem_cons, List.not_mem_nil, or_false, false_or, not_or, not_false_eq_true, true_or, or_true, findM, setM, e2, e3, n01]) | (with_reducible refine And.intro ?_ ?_) | (with_reducible refine condW_split ?_ ?_ <;> intro hc <;> (try simp only [push_cast] at hc)) | (with_reducible refine guardW_split ?_ ?_ <;> intro hc <;> (try simp only [push_cast] at hc)) | ((with_reducible refine Rounds_next ?_)) | ((with_reducible refine LoopK_X [1, 5, 8] ?_)) | omega | (with_reducible intro _)))
  refine LoopK_head 6 (fun env => [srcOf 1 (env 6)]) [(1, guardsV sets), (6, .map 0 1), (10, spansV [⟨sm, sm⟩]), (53, .lst 1 [.int .i64 p0.at_, .int .i64 p1.at_]), (54, .int .i64 2), (55, .int .i64 0)] [⟨0, 1, true, [.int .i64 p0.at_, partsV [p0, p3], .int .i64 p1.at_, partsV [p1, p2]]⟩] ?_ ?_
  · (repeat' (first | (simp (disch := omega) only [push_cast, ↓zz, seval, e2, e3, n01]) | (with_reducible refine And.intro ?_ ?_) | (with_reducible refine condW_split ?_ ?_ <;> intro hc <;> (try simp only [push_cast] at hc)) | (with_reducible refine guardW_split ?_ ?_ <;> intro hc <;> (try simp only [push_cast] at hc)) | omega | (with_reducible intro _)))
    all_goals (simp only [partV, e2, e3, n01]; done)
  (repeat' (first | (simp (disch := omega) only [push_cast, ↓zz, seval, findM, inSym, hg, e2, e3, n01]) | (with_reducible refine And.intro ?_ ?_) | (with_reducible refine condW_split ?_ ?_ <;> intro hc <;> (try simp only [push_cast] at hc)) | (with_reducible refine guardW_split ?_ ?_ <;> intro hc <;> (try simp only [push_cast] at hc)) | ((with_reducible refine Rounds_next ?_)) | ((with_reducible first | refine eQ T1 ?_ | refine eQ P1 ?_)) | ((with_reducible first | refine eQ T2 ?_ | refine eQ P2 ?_)) | ((with_reducible first | refine eK hF ?_ | refine eK hL ?_)) | omega | (with_reducible intro _)))
  all_goals ((try simp only [*, decide_true, decide_false, Bool.true_and, Bool.false_and]); (repeat' (first | (simp (disch := omega) only [push_cast, ↓zz, seval, an_tup]) | omega | (with_reducible refine And.intro ?_ ?_))))
theorem values_4_9 (bs dr tk up sm : Int) (p0 p1 p2 p3 : Part) (sets : List (List Span)) (hs : smallB sm = true) (hS : SetsOk [p0, p1, p2, p3] sets) (e2 : p2.at_ = p1.at_) (e3 : p3.at_ = p1.at_) (n01 : ¬ p0.at_ = p1.at_) :
    PC Try.prog 101 [termV ⟨bs, dr, tk, up, sm, [p0, p1, p2, p3]⟩, guardsV sets] (.tup [spansV (valsL ⟨bs, dr, tk, up, sm, [p0, p1, p2, p3]⟩ sets), .bool (inSym (valsL ⟨bs, dr, tk, up, sm, [p0, p1, p2, p3]⟩ sets))]) := by
  have hg := pure_guards sets
  have b0 := right_at (hS.parts p0 (by simp))
  have b1 := right_at (hS.parts p1 (by simp))
  have b2 := right_at (hS.parts p2 (by simp))
  have b3 := right_at (hS.parts p3 (by simp))
  have A0 := acc_one hs
  obtain ⟨T1, P1, A1⟩ := values_step (a := p0.at_) hS A0 (by omega) (by simp)
  have l1 : atL [p0, p1, p2, p3] p0.at_ = [p0] := by simp [atL, e2, e3, n01, Ne.symm (show p0.at_ ≠ p1.at_ from n01)]
  rw [l1] at T1 P1
  obtain ⟨T2, P2, A2⟩ := values_step (a := p1.at_) hS A1 (by omega) (by simp)
  have l2 : atL [p0, p1, p2, p3] p1.at_ = [p1, p2, p3] := by simp [atL, e2, e3, n01, Ne.symm (show p0.at_ ≠ p1.at_ from n01)]
  rw [l2] at T2 P2
  have hv : valsL ⟨bs, dr, tk, up, sm, [p0, p1, p2, p3]⟩ sets = valsF [p0, p1, p2, p3] sets (valsF [p0, p1, p2, p3] sets ([⟨sm, sm⟩]) p0.at_) p1.at_ := by simp [valsL, placesL, placesF, e2, e3, n01, Ne.symm (show p0.at_ ≠ p1.at_ from n01)]
  rw [hv]
  generalize ho1 : valsF [p0, p1, p2, p3] sets ([⟨sm, sm⟩]) p0.at_ = o1 at *
  generalize ht1 : togL [p0] (nth sets p0.at_.toNat) = t1 at *
  generalize ho2 : valsF [p0, p1, p2, p3] sets (o1) p1.at_ = o2 at *
  generalize ht2 : togL [p1, p2, p3] (nth sets p1.at_.toNat) = t2 at *
  have hF := span_First o2 (by have := A2.2; omega)
  have hL := span_Last o2 (by have := A2.2; omega)
  clear hS hv ho1 ht1 l1 ho2 ht2 l2
  refine pc_w' c_term_values ?_
  unfold B_term_values
  (repeat' (first | (simp (disch := omega) only [push_cast, ↓zz, seval]) | (with_reducible refine And.intro ?_ ?_) | (with_reducible refine condW_split ?_ ?_ <;> intro hc <;> (try simp only [push_cast] at hc)) | (with_reducible refine guardW_split ?_ ?_ <;> intro hc <;> (try simp only [push_cast] at hc)) | omega | (with_reducible intro _)))
  refine LoopK_rounds 6 ?_
  (repeat' (first | (simp (disch := omega) only [push_cast, ↓zz, seval, xx, List.mem_cons, List.not_mem_nil, or_false, false_or, not_or, not_false_eq_true, true_or, or_true, findM, setM, e2, e3, n01]) | (with_reducible refine And.intro ?_ ?_) | (with_reducible refine condW_split ?_ ?_ <;> intro hc <;> (try simp only [push_cast] at hc)) | (with_reducible refine guardW_split ?_ ?_ <;> intro hc <;> (try simp only [push_cast] at hc)) | ((with_reducible refine Rounds_next ?_)) | ((with_reducible refine LoopK_X [1, 8] ?_)) | omega | (with_reducible intro _)))
  refine LoopK_head 6 (fun env => [srcOf 1 (env 6)]) [(1, guardsV sets), (6, .map 0 1), (10, spansV [⟨sm, sm⟩]), (53, .lst 1 [.int .i64 p0.at_, .int .i64 p1.at_]), (54, .int .i64 2), (55, .int .i64 0)] [⟨0, 1, true, [.int .i64 p0.at_, partsV [p0], .int .i64 p1.at_, partsV [p1, p2, p3]]⟩] ?_ ?_
  · (repeat' (first | (simp (disch := omega) only [push_cast, ↓zz, seval, e2, e3, n01]) | (with_reducible refine And.intro ?_ ?_) | (with_reducible refine condW_split ?_ ?_ <;> intro hc <;> (try simp only [push_cast] at hc)) | (with_reducible refine guardW_split ?_ ?_ <;> intro hc <;> (try simp only [push_cast] at hc)) | omega | (with_reducible intro _)))
    all_goals (simp only [partV, e2, e3, n01]; done)
  (repeat' (first | (simp (disch := omega) only [push_cast, ↓zz, seval, findM, inSym, hg, e2, e3, n01]) | (with_reducible refine And.intro ?_ ?_) | (with_reducible refine condW_split ?_ ?_ <;> intro hc <;> (try simp only [push_cast] at hc)) | (with_reducible refine guardW_split ?_ ?_ <;> intro hc <;> (try simp only [push_cast] at hc)) | ((with_reducible refine Rounds_next ?_)) | ((with_reducible first | refine eQ T1 ?_ | refine eQ P1 ?_)) | ((with_reducible first | refine eQ T2 ?_ | refine eQ P2 ?_)) | ((with_reducible first | refine eK hF ?_ | refine eK hL ?_)) | omega | (with_reducible intro _)))
  all_goals ((try simp only [*, decide_true, decide_false, Bool.true_and, Bool.false_and]); (repeat' (first | (simp (disch := omega) only [push_cast, ↓zz, seval, an_tup]) | omega | (with_reducible refine And.intro ?_ ?_))))
theorem values_4_10 (bs dr tk up sm : Int) (p0 p1 p2 p3 : Part) (sets : List (List Span)) (hs : smallB sm = true) (hS : SetsOk [p0, p1, p2, p3] sets) (e2 : p2.at_ = p1.at_) (n01 : ¬ p0.at_ = p1.at_) (n03 : ¬ p0.at_ = p3.at_) (n13 : ¬ p1.at_ = p3.at_) :
    PC Try.prog 101 [termV ⟨bs, dr, tk, up, sm, [p0, p1, p2, p3]⟩, guardsV sets] (.tup [spansV (valsL ⟨bs, dr, tk, up, sm, [p0, p1, p2, p3]⟩ sets), .bool (inSym (valsL ⟨bs, dr, tk, up, sm, [p0, p1, p2, p3]⟩ sets))]) := by
  have hg := pure_guards sets
  have b0 := right_at (hS.parts p0 (by simp))
  have b1 := right_at (hS.parts p1 (by simp))
  have b2 := right_at (hS.parts p2 (by simp))
  have b3 := right_at (hS.parts p3 (by simp))
  have A0 := acc_one hs
  obtain ⟨T1, P1, A1⟩ := values_step (a := p0.at_) hS A0 (by omega) (by simp)
  have l1 : atL [p0, p1, p2, p3] p0.at_ = [p0] := by simp [atL, e2, n01, n03, n13, Ne.symm (show p0.at_ ≠ p1.at_ from n01), Ne.symm (show p0.at_ ≠ p3.at_ from n03), Ne.symm (show p1.at_ ≠ p3.at_ from n13)]
  rw [l1] at T1 P1
  obtain ⟨T2, P2, A2⟩ := values_step (a := p1.at_) hS A1 (by omega) (by simp)
  have l2 : atL [p0, p1, p2, p3] p1.at_ = [p1, p2] := by simp [atL, e2, n01, n03, n13, Ne.symm (show p0.at_ ≠ p1.at_ from n01), Ne.symm (show p0.at_ ≠ p3.at_ from n03), Ne.symm (show p1.at_ ≠ p3.at_ from n13)]
  rw [l2] at T2 P2
  obtain ⟨T3, P3, A3⟩ := values_step (a := p3.at_) hS A2 (by omega) (by simp)
  have l3 : atL [p0, p1, p2, p3] p3.at_ = [p3] := by simp [atL, e2, n01, n03, n13, Ne.symm (show p0.at_ ≠ p1.at_ from n01), Ne.symm (show p0.at_ ≠ p3.at_ from n03), Ne.symm (show p1.at_ ≠ p3.at_ from n13)]
  rw [l3] at T3 P3
  have hv : valsL ⟨bs, dr, tk, up, sm, [p0, p1, p2, p3]⟩ sets = valsF [p0, p1, p2, p3] sets (valsF [p0, p1, p2, p3] sets (valsF [p0, p1, p2, p3] sets ([⟨sm, sm⟩]) p0.at_) p1.at_) p3.at_ := by simp [valsL, placesL, placesF, e2, n01, n03, n13, Ne.symm (show p0.at_ ≠ p1.at_ from n01), Ne.symm (show p0.at_ ≠ p3.at_ from n03), Ne.symm (show p1.at_ ≠ p3.at_ from n13)]
  rw [hv]
  generalize ho1 : valsF [p0, p1, p2, p3] sets ([⟨sm, sm⟩]) p0.at_ = o1 at *
  generalize ht1 : togL [p0] (nth sets p0.at_.toNat) = t1 at *
  generalize ho2 : valsF [p0, p1, p2, p3] sets (o1) p1.at_ = o2 at *
  generalize ht2 : togL [p1, p2] (nth sets p1.at_.toNat) = t2 at *
  generalize ho3 : valsF [p0, p1, p2, p3] sets (o2) p3.at_ = o3 at *
  generalize ht3 : togL [p3] (nth sets p3.at_.toNat) = t3 at *
  have hF := span_First o3 (by have := A3.2; omega)
  have hL := span_Last o3 (by have := A3.2; omega)
  clear hS hv ho1 ht1 l1 ho2 ht2 l2 ho3 ht3 l3
  refine pc_w' c_term_values ?_
  unfold B_term_values
  (repeat' (first | (simp (disch := omega) only [push_cast, ↓zz, seval]) | (with_reducible refine And.intro ?_ ?_) | (with_reducible refine condW_split ?_ ?_ <;> intro hc <;> (try simp only [push_cast] at hc)) | (with_reducible refine guardW_split ?_ ?_ <;> intro hc <;> (try simp only [push_cast] at hc)) | omega | (with_reducible intro _)))
  refine LoopK_rounds 6 ?_
  (repeat' (first | (simp (disch := omega) only [push_cast, ↓zz, seval, xx, List.mem_cons, List.not_mem_nil, or_false, false_or, not_or, not_false_eq_true, true_or, or_true, findM, setM, e2, n01, n03, n13]) | (with_reducible refine And.intro ?_ ?_) | (with_reducible refine condW_split ?_ ?_ <;> intro hc <;> (try simp only [push_cast] at hc)) | (with_reducible refine guardW_split ?_ ?_ <;> intro hc <;> (try simp only [push_cast] at hc)) | ((with_reducible refine Rounds_next ?_)) | ((with_reducible refine LoopK_X [1, 8] ?_)) | omega | (with_reducible intro _)))
  refine LoopK_head 6 (fun env => [srcOf 1 (env 6)]) [(1, guardsV sets), (6, .map 0 1), (10, spansV [⟨sm, sm⟩]), (53, .lst 1 [.int .i64 p0.at_, .int .i64 p1.at_, .int .i64 p3.at_]), (54, .int .i64 3), (55, .int .i64 0)] [⟨0, 1, true, [.int .i64 p0.at_, partsV [p0], .int .i64 p1.at_, partsV [p1, p2], .int .i64 p3.at_, partsV [p3]]⟩] ?_ ?_
  · (repeat' (first | (simp (disch := omega) only [push_cast, ↓zz, seval, e2, n01, n03, n13]) | (with_reducible refine And.intro ?_ ?_) | (with_reducible refine condW_split ?_ ?_ <;> intro hc <;> (try simp only [push_cast] at hc)) | (with_reducible refine guardW_split ?_ ?_ <;> intro hc <;> (try simp only [push_cast] at hc)) | omega | (with_reducible intro _)))
    all_goals (simp only [partV, e2, n01, n03, n13]; done)
  (repeat' (first | (simp (disch := omega) only [push_cast, ↓zz, seval, findM, inSym, hg, e2, n01, n03, n13]) | (with_reducible refine And.intro ?_ ?_) | (with_reducible refine condW_split ?_ ?_ <;> intro hc <;> (try simp only [push_cast] at hc)) | (with_reducible refine guardW_split ?_ ?_ <;> intro hc <;> (try simp only [push_cast] at hc)) | ((with_reducible refine Rounds_next ?_)) | ((with_reducible first | refine eQ T1 ?_ | refine eQ P1 ?_)) | ((with_reducible first | refine eQ T2 ?_ | refine eQ P2 ?_)) | ((with_reducible first | refine eQ T3 ?_ | refine eQ P3 ?_)) | ((with_reducible first | refine eK hF ?_ | refine eK hL ?_)) | omega | (with_reducible intro _)))
  all_goals ((try simp only [*, decide_true, decide_false, Bool.true_and, Bool.false_and]); (repeat' (first | (simp (disch := omega) only [push_cast, ↓zz, seval, an_tup]) | omega | (with_reducible refine And.intro ?_ ?_))))
theorem values_4_11 (bs dr tk up sm : Int) (p0 p1 p2 p3 : Part) (sets : List (List Span)) (hs : smallB sm = true) (hS : SetsOk [p0, p1, p2, p3] sets) (e3 : p3.at_ = p0.at_) (n01 : ¬ p0.at_ = p1.at_) (n02 : ¬ p0.at_ = p2.at_) (n12 : ¬ p1.at_ = p2.at_) :
    PC Try.prog 101 [termV ⟨bs, dr, tk, up, sm, [p0, p1, p2, p3]⟩, guardsV sets] (.tup [spansV (valsL ⟨bs, dr, tk, up, sm, [p0, p1, p2, p3]⟩ sets), .bool (inSym (valsL ⟨bs, dr, tk, up, sm, [p0, p1, p2, p3]⟩ sets))]) := by
  have hg := pure_guards sets
  have b0 := right_at (hS.parts p0 (by simp))
  have b1 := right_at (hS.parts p1 (by simp))
  have b2 := right_at (hS.parts p2 (by simp))
  have b3 := right_at (hS.parts p3 (by simp))
  have A0 := acc_one hs
  obtain ⟨T1, P1, A1⟩ := values_step (a := p0.at_) hS A0 (by omega) (by simp)
  have l1 : atL [p0, p1, p2, p3] p0.at_ = [p0, p3] := by simp [atL, e3, n01, n02, n12, Ne.symm (show p0.at_ ≠ p1.at_ from n01), Ne.symm (show p0.at_ ≠ p2.at_ from n02), Ne.symm (show p1.at_ ≠ p2.at_ from n12)]
  rw [l1] at T1 P1
  obtain ⟨T2, P2, A2⟩ := values_step (a := p1.at_) hS A1 (by omega) (by simp)
  have l2 : atL [p0, p1, p2, p3] p1.at_ = [p1] := by simp [atL, e3, n01, n02, n12, Ne.symm (show p0.at_ ≠ p1.at_ from n01), Ne.symm (show p0.at_ ≠ p2.at_ from n02), Ne.symm (show p1.at_ ≠ p2.at_ from n12)]
  rw [l2] at T2 P2
  obtain ⟨T3, P3, A3⟩ := values_step (a := p2.at_) hS A2 (by omega) (by simp)
  have l3 : atL [p0, p1, p2, p3] p2.at_ = [p2] := by simp [atL, e3, n01, n02, n12, Ne.symm (show p0.at_ ≠ p1.at_ from n01), Ne.symm (show p0.at_ ≠ p2.at_ from n02), Ne.symm (show p1.at_ ≠ p2.at_ from n12)]
  rw [l3] at T3 P3
  have hv : valsL ⟨bs, dr, tk, up, sm, [p0, p1, p2, p3]⟩ sets = valsF [p0, p1, p2, p3] sets (valsF [p0, p1, p2, p3] sets (valsF [p0, p1, p2, p3] sets ([⟨sm, sm⟩]) p0.at_) p1.at_) p2.at_ := by simp [valsL, placesL, placesF, e3, n01, n02, n12, Ne.symm (show p0.at_ ≠ p1.at_ from n01), Ne.symm (show p0.at_ ≠ p2.at_ from n02), Ne.symm (show p1.at_ ≠ p2.at_ from n12)]
  rw [hv]
  generalize ho1 : valsF [p0, p1, p2, p3] sets ([⟨sm, sm⟩]) p0.at_ = o1 at *
  generalize ht1 : togL [p0, p3] (nth sets p0.at_.toNat) = t1 at *
  generalize ho2 : valsF [p0, p1, p2, p3] sets (o1) p1.at_ = o2 at *
  generalize ht2 : togL [p1] (nth sets p1.at_.toNat) = t2 at *
  generalize ho3 : valsF [p0, p1, p2, p3] sets (o2) p2.at_ = o3 at *
  generalize ht3 : togL [p2] (nth sets p2.at_.toNat) = t3 at *
  have hF := span_First o3 (by have := A3.2; omega)
  have hL := span_Last o3 (by have := A3.2; omega)
  clear hS hv ho1 ht1 l1 ho2 ht2 l2 ho3 ht3 l3
  refine pc_w' c_term_values ?_
  unfold B_term_values
  (repeat' (first | (simp (disch := omega) only [push_cast, ↓zz, seval]) | (with_reducible refine And.intro ?_ ?_) | (with_reducible refine condW_split ?_ ?_ <;> intro hc <;> (try simp only [push_cast] at hc)) | (with_reducible refine guardW_split ?_ ?_ <;> intro hc <;> (try simp only [push_cast] at hc)) | omega | (with_reducible intro _)))
  refine LoopK_rounds 6 ?_
  (repeat' (first | (simp (disch := omega) only [push_cast, ↓zz, seval, xx, List.mem_cons, List.not_mem_nil, or_false, false_or, not_or, not_false_eq_true, true_or, or_true, findM, setM, e3, n01, n02, n12]) | (with_reducible refine And.intro ?_ ?_) | (with_reducible refine condW_split ?_ ?_ <;> intro hc <;> (try simp only [push_cast] at hc)) | (with_reducible refine guardW_split ?_ ?_ <;> intro hc <;> (try simp only [push_cast] at hc)) | ((with_reducible refine Rounds_next ?_)) | ((with_reducible refine LoopK_X [1, 5] ?_)) | omega | (with_reducible intro _)))
  refine LoopK_head 6 (fun env => [srcOf 1 (env 6)]) [(1, guardsV sets), (6, .map 0 1), (10, spansV [⟨sm, sm⟩]), (53, .lst 1 [.int .i64 p0.at_, .int .i64 p1.at_, .int .i64 p2.at_]), (54, .int .i64 3), (55, .int .i64 0)] [⟨0, 1, true, [.int .i64 p0.at_, partsV [p0, p3], .int .i64 p1.at_, partsV [p1], .int .i64 p2.at_, partsV [p2]]⟩] ?_ ?_
  · (repeat' (first | (simp (disch := omega) only [push_cast, ↓zz, seval, e3, n01, n02, n12]) | (with_reducible refine And.intro ?_ ?_) | (with_reducible refine condW_split ?_ ?_ <;> intro hc <;> (try simp only [push_cast] at hc)) | (with_reducible refine guardW_split ?_ ?_ <;> intro hc <;> (try simp only [push_cast] at hc)) | omega | (with_reducible intro _)))
    all_goals (simp only [partV, e3, n01, n02, n12]; done)
  (repeat' (first | (simp (disch := omega) only [push_cast, ↓zz, seval, findM, inSym, hg, e3, n01, n02, n12]) | (with_reducible refine And.intro ?_ ?_) | (with_reducible refine condW_split ?_ ?_ <;> intro hc <;> (try simp only [push_cast] at hc)) | (with_reducible refine guardW_split ?_ ?_ <;> intro hc <;> (try simp only [push_cast] at hc)) | ((with_reducible refine Rounds_next ?_)) | ((with_reducible first | refine eQ T1 ?_ | refine eQ P1 ?_)) | ((with_reducible first | refine eQ T2 ?_ | refine eQ P2 ?_)) | ((with_reducible first | refine eQ T3 ?_ | refine eQ P3 ?_)) | ((with_reducible first | refine eK hF ?_ | refine eK hL ?_)) | omega | (with_reducible intro _)))
  all_goals ((try simp only [*, decide_true, decide_false, Bool.true_and, Bool.false_and]); (repeat' (first | (simp (disch := omega) only [push_cast, ↓zz, seval, an_tup]) | omega | (with_reducible refine And.intro ?_ ?_))))
theorem values_4_12 (bs dr tk up sm : Int) (p0 p1 p2 p3 : Part) (sets : List (List Span)) (hs : smallB sm = true) (hS : SetsOk [p0, p1, p2, p3] sets) (e3 : p3.at_ = p1.at_) (n01 : ¬ p0.at_ = p1.at_) (n02 : ¬ p0.at_ = p2.at_) (n12 : ¬ p1.at_ = p2.at_) :
    PC Try.prog 101 [termV ⟨bs, dr, tk, up, sm, [p0, p1, p2, p3]⟩, guardsV sets] (.tup [spansV (valsL ⟨bs, dr, tk, up, sm, [p0, p1, p2, p3]⟩ sets), .bool (inSym (valsL ⟨bs, dr, tk, up, sm, [p0, p1, p2, p3]⟩ sets))]) := by
  have hg := pure_guards sets
  have b0 := right_at (hS.parts p0 (by simp))
  have b1 := right_at (hS.parts p1 (by simp))
  have b2 := right_at (hS.parts p2 (by simp))
  have b3 := right_at (hS.parts p3 (by simp))
  have A0 := acc_one hs
  obtain ⟨T1, P1, A1⟩ := values_step (a := p0.at_) hS A0 (by omega) (by simp)
  have l1 : atL [p0, p1, p2, p3] p0.at_ = [p0] := by simp [atL, e3, n01, n02, n12, Ne.symm (show p0.at_ ≠ p1.at_ from n01), Ne.symm (show p0.at_ ≠ p2.at_ from n02), Ne.symm (show p1.at_ ≠ p2.at_ from n12)]
  rw [l1] at T1 P1
  obtain ⟨T2, P2, A2⟩ := values_step (a := p1.at_) hS A1 (by omega) (by simp)
  have l2 : atL [p0, p1, p2, p3] p1.at_ = [p1, p3] := by simp [atL, e3, n01, n02, n12, Ne.symm (show p0.at_ ≠ p1.at_ from n01), Ne.symm (show p0.at_ ≠ p2.at_ from n02), Ne.symm (show p1.at_ ≠ p2.at_ from n12)]
  rw [l2] at T2 P2
  obtain ⟨T3, P3, A3⟩ := values_step (a := p2.at_) hS A2 (by omega) (by simp)
  have l3 : atL [p0, p1, p2, p3] p2.at_ = [p2] := by simp [atL, e3, n01, n02, n12, Ne.symm (show p0.at_ ≠ p1.at_ from n01), Ne.symm (show p0.at_ ≠ p2.at_ from n02), Ne.symm (show p1.at_ ≠ p2.at_ from n12)]
  rw [l3] at T3 P3
  have hv : valsL ⟨bs, dr, tk, up, sm, [p0, p1, p2, p3]⟩ sets = valsF [p0, p1, p2, p3] sets (valsF [p0, p1, p2, p3] sets (valsF [p0, p1, p2, p3] sets ([⟨sm, sm⟩]) p0.at_) p1.at_) p2.at_ := by simp [valsL, placesL, placesF, e3, n01, n02, n12, Ne.symm (show p0.at_ ≠ p1.at_ from n01), Ne.symm (show p0.at_ ≠ p2.at_ from n02), Ne.symm (show p1.at_ ≠ p2.at_ from n12)]
  rw [hv]
  generalize ho1 : valsF [p0, p1, p2, p3] sets ([⟨sm, sm⟩]) p0.at_ = o1 at *
  generalize ht1 : togL [p0] (nth sets p0.at_.toNat) = t1 at *
  generalize ho2 : valsF [p0, p1, p2, p3] sets (o1) p1.at_ = o2 at *
  generalize ht2 : togL [p1, p3] (nth sets p1.at_.toNat) = t2 at *
  generalize ho3 : valsF [p0, p1, p2, p3] sets (o2) p2.at_ = o3 at *
  generalize ht3 : togL [p2] (nth sets p2.at_.toNat) = t3 at *
  have hF := span_First o3 (by have := A3.2; omega)
  have hL := span_Last o3 (by have := A3.2; omega)
  clear hS hv ho1 ht1 l1 ho2 ht2 l2 ho3 ht3 l3
  refine pc_w' c_term_values ?_
  unfold B_term_values
  (repeat' (first | (simp (disch := omega) only [push_cast, ↓zz, seval]) | (with_reducible refine And.intro ?_ ?_) | (with_reducible refine condW_split ?_ ?_ <;> intro hc <;> (try simp only [push_cast] at hc)) | (with_reducible refine guardW_split ?_ ?_ <;> intro hc <;> (try simp only [push_cast] at hc)) | omega | (with_reducible intro _)))
  refine LoopK_rounds 6 ?_
  (repeat' (first | (simp (disch := omega) only [push_cast, ↓zz, seval, xx, List.mem_cons, List.not_mem_nil, or_false, false_or, not_or, not_false_eq_true, true_or, or_true, findM, setM, e3, n01, n02, n12]) | (with_reducible refine And.intro ?_ ?_) | (with_reducible refine condW_split ?_ ?_ <;> intro hc <;> (try simp only [push_cast] at hc)) | (with_reducible refine guardW_split ?_ ?_ <;> intro hc <;> (try simp only [push_cast] at hc)) | ((with_reducible refine Rounds_next ?_)) | ((with_reducible refine LoopK_X [1, 8] ?_)) | omega | (with_reducible intro _)))
  refine LoopK_head 6 (fun env => [srcOf 1 (env 6)]) [(1, guardsV sets), (6, .map 0 1), (10, spansV [⟨sm, sm⟩]), (53, .lst 1 [.int .i64 p0.at_, .int .i64 p1.at_, .int .i64 p2.at_]), (54, .int .i64 3), (55, .int .i64 0)] [⟨0, 1, true, [.int .i64 p0.at_, partsV [p0], .int .i64 p1.at_, partsV [p1, p3], .int .i64 p2.at_, partsV [p2]]⟩] ?_ ?_
  · (repeat' (first | (simp (disch := omega) only [push_cast, ↓zz, seval, e3, n01, n02, n12]) | (with_reducible refine And.intro ?_ ?_) | (with_reducible refine condW_split ?_ ?_ <;> intro hc <;> (try simp only [push_cast] at hc)) | (with_reducible refine guardW_split ?_ ?_ <;> intro hc <;> (try simp only [push_cast] at hc)) | omega | (with_reducible intro _)))
    all_goals (simp only [partV, e3, n01, n02, n12]; done)
  (repeat' (first | (simp (disch := omega) only [push_cast, ↓zz, seval, findM, inSym, hg, e3, n01, n02, n12]) | (with_reducible refine And.intro ?_ ?_) | (with_reducible refine condW_split ?_ ?_ <;> intro hc <;> (try simp only [push_cast] at hc)) | (with_reducible refine guardW_split ?_ ?_ <;> intro hc <;> (try simp only [push_cast] at hc)) | ((with_reducible refine Rounds_next ?_)) | ((with_reducible first | refine eQ T1 ?_ | refine eQ P1 ?_)) | ((with_reducible first | refine eQ T2 ?_ | refine eQ P2 ?_)) | ((with_reducible first | refine eQ T3 ?_ | refine eQ P3 ?_)) | ((with_reducible first | refine eK hF ?_ | refine eK hL ?_)) | omega | (with_reducible intro _)))
  all_goals ((try simp only [*, decide_true, decide_false, Bool.true_and, Bool.false_and]); (repeat' (first | (simp (disch := omega) only [push_cast, ↓zz, seval, an_tup]) | omega | (with_reducible refine And.intro ?_ ?_))))
theorem values_4_13 (bs dr tk up sm : Int) (p0 p1 p2 p3 : Part) (sets : List (List Span)) (hs : smallB sm = true) (hS : SetsOk [p0, p1, p2, p3] sets) (e3 : p3.at_ = p2.at_) (n01 : ¬ p0.at_ = p1.at_) (n02 : ¬ p0.at_ = p2.at_) (n12 : ¬ p1.at_ = p2.at_) :
    PC Try.prog 101 [termV ⟨bs, dr, tk, up, sm, [p0, p1, p2, p3]⟩, guardsV sets] (.tup [spansV (valsL ⟨bs, dr, tk, up, sm, [p0, p1, p2, p3]⟩ sets), .bool (inSym (valsL ⟨bs, dr, tk, up, sm, [p0, p1, p2, p3]⟩ sets))]) := by
  have hg := pure_guards sets
  have b0 := right_at (hS.parts p0 (by simp))
  have b1 := right_at (hS.parts p1 (by simp))
  have b2 := right_at (hS.parts p2 (by simp))
  have b3 := right_at (hS.parts p3 (by simp))
  have A0 := acc_one hs
  obtain ⟨T1, P1, A1⟩ := values_step (a := p0.at_) hS A0 (by omega) (by simp)
  have l1 : atL [p0, p1, p2, p3] p0.at_ = [p0] := by simp [atL, e3, n01, n02, n12, Ne.symm (show p0.at_ ≠ p1.at_ from n01), Ne.symm (show p0.at_ ≠ p2.at_ from n02), Ne.symm (show p1.at_ ≠ p2.at_ from n12)]
  rw [l1] at T1 P1
  obtain ⟨T2, P2, A2⟩ := values_step (a := p1.at_) hS A1 (by omega) (by simp)
  have l2 : atL [p0, p1, p2, p3] p1.at_ = [p1] := by simp [atL, e3, n01, n02, n12, Ne.symm (show p0.at_ ≠ p1.at_ from n01), Ne.symm (show p0.at_ ≠ p2.at_ from n02), Ne.symm (show p1.at_ ≠ p2.at_ from n12)]
  rw [l2] at T2 P2
  obtain ⟨T3, P3, A3⟩ := values_step (a := p2.at_) hS A2 (by omega) (by simp)
  have l3 : atL [p0, p1, p2, p3] p2.at_ = [p2, p3] := by simp [atL, e3, n01, n02, n12, Ne.symm (show p0.at_ ≠ p1.at_ from n01), Ne.symm (show p0.at_ ≠ p2.at_ from n02), Ne.symm (show p1.at_ ≠ p2.at_ from n12)]
  rw [l3] at T3 P3
  have hv : valsL ⟨bs, dr, tk, up, sm, [p0, p1, p2, p3]⟩ sets = valsF [p0, p1, p2, p3] sets (valsF [p0, p1, p2, p3] sets (valsF [p0, p1, p2, p3] sets ([⟨sm, sm⟩]) p0.at_) p1.at_) p2.at_ := by simp [valsL, placesL, placesF, e3, n01, n02, n12, Ne.symm (show p0.at_ ≠ p1.at_ from n01), Ne.symm (show p0.at_ ≠ p2.at_ from n02), Ne.symm (show p1.at_ ≠ p2.at_ from n12)]
  rw [hv]
  generalize ho1 : valsF [p0, p1, p2, p3] sets ([⟨sm, sm⟩]) p0.at_ = o1 at *
  generalize ht1 : togL [p0] (nth sets p0.at_.toNat) = t1 at *
  generalize ho2 : valsF [p0, p1, p2, p3] sets (o1) p1.at_ = o2 at *
  generalize ht2 : togL [p1] (nth sets p1.at_.toNat) = t2 at *
  generalize ho3 : valsF [p0, p1, p2, p3] sets (o2) p2.at_ = o3 at *
  generalize ht3 : togL [p2, p3] (nth sets p2.at_.toNat) = t3 at *
  have hF := span_First o3 (by have := A3.2; omega)
  have hL := span_Last o3 (by have := A3.2; omega)
  clear hS hv ho1 ht1 l1 ho2 ht2 l2 ho3 ht3 l3
  refine pc_w' c_term_values ?_
  unfold B_term_values
  (repeat' (first | (simp (disch := omega) only [push_cast, ↓zz, seval]) | (with_reducible refine And.intro ?_ ?_) | (with_reducible refine condW_split ?_ ?_ <;> intro hc <;> (try simp only [push_cast] at hc)) | (with_reducible refine guardW_split ?_ ?_ <;> intro hc <;> (try simp only [push_cast] at hc)) | omega | (with_reducible intro _)))
  refine LoopK_rounds 6 ?_
  (repeat' (first | (simp (disch := omega) only [push_cast, ↓zz, seval, xx, List.mem_cons, List.not_mem_nil, or_false, false_or, not_or, not_false_eq_true, true_or, or_true, findM, setM, e3, n01, n02, n12]) | (with_reducible refine And.intro ?_ ?_) | (with_reducible refine condW_split ?_ ?_ <;> intro hc <;> (try simp only [push_cast] at hc)) | (with_reducible refine guardW_split ?_ ?_ <;> intro hc <;> (try simp only [push_cast] at hc)) | ((with_reducible refine Rounds_next ?_)) | ((with_reducible refine LoopK_X [1, 11] ?_)) | omega | (with_reducible intro _)))
  refine LoopK_head 6 (fun env => [srcOf 1 (env 6)]) [(1, guardsV sets), (6, .map 0 1), (10, spansV [⟨sm, sm⟩]), (53, .lst 1 [.int .i64 p0.at_, .int .i64 p1.at_, .int .i64 p2.at_]), (54, .int .i64 3), (55, .int .i64 0)] [⟨0, 1, true, [.int .i64 p0.at_, partsV [p0], .int .i64 p1.at_, partsV [p1], .int .i64 p2.at_, partsV [p2, p3]]⟩] ?_ ?_
  · (repeat' (first | (simp (disch := omega) only [push_cast, ↓zz, seval, e3, n01, n02, n12]) | (with_reducible refine And.intro ?_ ?_) | (with_reducible refine condW_split ?_ ?_ <;> intro hc <;> (try simp only [push_cast] at hc)) | (with_reducible refine guardW_split ?_ ?_ <;> intro hc <;> (try simp only [push_cast] at hc)) | omega | (with_reducible intro _)))
    all_goals (simp only [partV, e3, n01, n02, n12]; done)
  (repeat' (first | (simp (disch := omega) only [push_cast, ↓zz, seval, findM, inSym, hg, e3, n01, n02, n12]) | (with_reducible refine And.intro ?_ ?_) | (with_reducible refine condW_split ?_ ?_ <;> intro hc <;> (try simp only [push_cast] at hc)) | (with_reducible refine guardW_split ?_ ?_ <;> intro hc <;> (try simp only [push_cast] at hc)) | ((with_reducible refine Rounds_next ?_)) | ((with_reducible first | refine eQ T1 ?_ | refine eQ P1 ?_)) | ((with_reducible first | refine eQ T2 ?_ | refine eQ P2 ?_)) | ((with_reducible first | refine eQ T3 ?_ | refine eQ P3 ?_)) | ((with_reducible first | refine eK hF ?_ | refine eK hL ?_)) | omega | (with_reducible intro _)))
  all_goals ((try simp only [*, decide_true, decide_false, Bool.true_and, Bool.false_and]); (repeat' (first | (simp (disch := omega) only [push_cast, ↓zz, seval, an_tup]) | omega | (with_reducible refine And.intro ?_ ?_))))
theorem values_4_14 (bs dr tk up sm : Int) (p0 p1 p2 p3 : Part) (sets : List (List Span)) (hs : smallB sm = true) (hS : SetsOk [p0, p1, p2, p3] sets) (n01 : ¬ p0.at_ = p1.at_) (n02 : ¬ p0.at_ = p2.at_) (n03 : ¬ p0.at_ = p3.at_) (n12 : ¬ p1.at_ = p2.at_) (n13 : ¬ p1.at_ = p3.at_) (n23 : ¬ p2.at_ = p3.at_) :
    PC Try.prog 101 [termV ⟨bs, dr, tk, up, sm, [p0, p1, p2, p3]⟩, guardsV sets] (.tup [spansV (valsL ⟨bs, dr, tk, up, sm, [p0, p1, p2, p3]⟩ sets), .bool (inSym (valsL ⟨bs, dr, tk, up, sm, [p0, p1, p2, p3]⟩ sets))]) := by
  have hg := pure_guards sets
  have b0 := right_at (hS.parts p0 (by simp))
  have b1 := right_at (hS.parts p1 (by simp))
  have b2 := right_at (hS.parts p2 (by simp))
  have b3 := right_at (hS.parts p3 (by simp))
  have A0 := acc_one hs
  obtain ⟨T1, P1, A1⟩ := values_step (a := p0.at_) hS A0 (by omega) (by simp)
  have l1 : atL [p0, p1, p2, p3] p0.at_ = [p0] := by simp [atL, n01, n02, n03, n12, n13, n23, Ne.symm (show p0.at_ ≠ p1.at_ from n01), Ne.symm (show p0.at_ ≠ p2.at_ from n02), Ne.symm (show p0.at_ ≠ p3.at_ from n03), Ne.symm (show p1.at_ ≠ p2.at_ from n12), Ne.symm (show p1.at_ ≠ p3.at_ from n13), Ne.symm (show p2.at_ ≠ p3.at_ from n23)]
  rw [l1] at T1 P1
  obtain ⟨T2, P2, A2⟩ := values_step (a := p1.at_) hS A1 (by omega) (by simp)
  have l2 : atL [p0, p1, p2, p3] p1.at_ = [p1] := by simp [atL, n01, n02, n03, n12, n13, n23, Ne.symm (show p0.at_ ≠ p1.at_ from n01), Ne.symm (show p0.at_ ≠ p2.at_ from n02), Ne.symm (show p0.at_ ≠ p3.at_ from n03), Ne.symm (show p1.at_ ≠ p2.at_ from n12), Ne.symm (show p1.at_ ≠ p3.at_ from n13), Ne.symm (show p2.at_ ≠ p3.at_ from n23)]
  rw [l2] at T2 P2
  obtain ⟨T3, P3, A3⟩ := values_step (a := p2.at_) hS A2 (by omega) (by simp)
  have l3 : atL [p0, p1, p2, p3] p2.at_ = [p2] := by simp [atL, n01, n02, n03, n12, n13, n23, Ne.symm (show p0.at_ ≠ p1.at_ from n01), Ne.symm (show p0.at_ ≠ p2.at_ from n02), Ne.symm (show p0.at_ ≠ p3.at_ from n03), Ne.symm (show p1.at_ ≠ p2.at_ from n12), Ne.symm (show p1.at_ ≠ p3.at_ from n13), Ne.symm (show p2.at_ ≠ p3.at_ from n23)]
  rw [l3] at T3 P3
  obtain ⟨T4, P4, A4⟩ := values_step (a := p3.at_) hS A3 (by omega) (by simp)
  have l4 : atL [p0, p1, p2, p3] p3.at_ = [p3] := by simp [atL, n01, n02, n03, n12, n13, n23, Ne.symm (show p0.at_ ≠ p1.at_ from n01), Ne.symm (show p0.at_ ≠ p2.at_ from n02), Ne.symm (show p0.at_ ≠ p3.at_ from n03), Ne.symm (show p1.at_ ≠ p2.at_ from n12), Ne.symm (show p1.at_ ≠ p3.at_ from n13), Ne.symm (show p2.at_ ≠ p3.at_ from n23)]
  rw [l4] at T4 P4
  have hv : valsL ⟨bs, dr, tk, up, sm, [p0, p1, p2, p3]⟩ sets = valsF [p0, p1, p2, p3] sets (valsF [p0, p1, p2, p3] sets (valsF [p0, p1, p2, p3] sets (valsF [p0, p1, p2, p3] sets ([⟨sm, sm⟩]) p0.at_) p1.at_) p2.at_) p3.at_ := by simp [valsL, placesL, placesF, n01, n02, n03, n12, n13, n23, Ne.symm (show p0.at_ ≠ p1.at_ from n01), Ne.symm (show p0.at_ ≠ p2.at_ from n02), Ne.symm (show p0.at_ ≠ p3.at_ from n03), Ne.symm (show p1.at_ ≠ p2.at_ from n12), Ne.symm (show p1.at_ ≠ p3.at_ from n13), Ne.symm (show p2.at_ ≠ p3.at_ from n23)]
  rw [hv]
  generalize ho1 : valsF [p0, p1, p2, p3] sets ([⟨sm, sm⟩]) p0.at_ = o1 at *
  generalize ht1 : togL [p0] (nth sets p0.at_.toNat) = t1 at *
  generalize ho2 : valsF [p0, p1, p2, p3] sets (o1) p1.at_ = o2 at *
  generalize ht2 : togL [p1] (nth sets p1.at_.toNat) = t2 at *
  generalize ho3 : valsF [p0, p1, p2, p3] sets (o2) p2.at_ = o3 at *
  generalize ht3 : togL [p2] (nth sets p2.at_.toNat) = t3 at *
  generalize ho4 : valsF [p0, p1, p2, p3] sets (o3) p3.at_ = o4 at *
  generalize ht4 : togL [p3] (nth sets p3.at_.toNat) = t4 at *
  have hF := span_First o4 (by have := A4.2; omega)
  have hL := span_Last o4 (by have := A4.2; omega)
  clear hS hv ho1 ht1 l1 ho2 ht2 l2 ho3 ht3 l3 ho4 ht4 l4
  refine pc_w' c_term_values ?_
  unfold B_term_values
  (repeat' (first | (simp (disch := omega) only [push_cast, ↓zz, seval]) | (with_reducible refine And.intro ?_ ?_) | (with_reducible refine condW_split ?_ ?_ <;> intro hc <;> (try simp only [push_cast] at hc)) | (with_reducible refine guardW_split ?_ ?_ <;> intro hc <;> (try simp only [push_cast] at hc)) | omega | (with_reducible intro _)))
  refine LoopK_rounds 6 ?_
  (repeat' (first | (simp (disch := omega) only [push_cast, ↓zz, seval, xx, List.mem_cons, List.not_mem_nil, or_false, false_or, not_or, not_false_eq_true, true_or, or_true, findM, setM, n01, n02, n03, n12, n13, n23]) | (with_reducible refine And.intro ?_ ?_) | (with_reducible refine condW_split ?_ ?_ <;> intro hc <;> (try simp only [push_cast] at hc)) | (with_reducible refine guardW_split ?_ ?_ <;> intro hc <;> (try simp only [push_cast] at hc)) | ((with_reducible refine Rounds_next ?_)) | ((with_reducible refine LoopK_X [1] ?_)) | omega | (with_reducible intro _)))
  refine LoopK_head 6 (fun env => [srcOf 1 (env 6)]) [(1, guardsV sets), (6, .map 0 1), (10, spansV [⟨sm, sm⟩]), (53, .lst 1 [.int .i64 p0.at_, .int .i64 p1.at_, .int .i64 p2.at_, .int .i64 p3.at_]), (54, .int .i64 4), (55, .int .i64 0)] [⟨0, 1, true, [.int .i64 p0.at_, partsV [p0], .int .i64 p1.at_, partsV [p1], .int .i64 p2.at_, partsV [p2], .int .i64 p3.at_, partsV [p3]]⟩] ?_ ?_
  · (repeat' (first | (simp (disch := omega) only [push_cast, ↓zz, seval, n01, n02, n03, n12, n13, n23]) | (with_reducible refine And.intro ?_ ?_) | (with_reducible refine condW_split ?_ ?_ <;> intro hc <;> (try simp only [push_cast] at hc)) | (with_reducible refine guardW_split ?_ ?_ <;> intro hc <;> (try simp only [push_cast] at hc)) | omega | (with_reducible intro _)))
    all_goals (simp only [partV, n01, n02, n03, n12, n13, n23]; done)
  (repeat' (first | (simp (disch := omega) only [push_cast, ↓zz, seval, findM, inSym, hg, n01, n02, n03, n12, n13, n23]) | (with_reducible refine And.intro ?_ ?_) | (with_reducible refine condW_split ?_ ?_ <;> intro hc <;> (try simp only [push_cast] at hc)) | (with_reducible refine guardW_split ?_ ?_ <;> intro hc <;> (try simp only [push_cast] at hc)) | ((with_reducible refine Rounds_next ?_)) | ((with_reducible first | refine eQ T1 ?_ | refine eQ P1 ?_)) | ((with_reducible first | refine eQ T2 ?_ | refine eQ P2 ?_)) | ((with_reducible first | refine eQ T3 ?_ | refine eQ P3 ?_)) | ((with_reducible first | refine eQ T4 ?_ | refine eQ P4 ?_)) | ((with_reducible first | refine eK hF ?_ | refine eK hL ?_)) | omega | (with_reducible intro _)))
  all_goals ((try simp only [*, decide_true, decide_false, Bool.true_and, Bool.false_and]); (repeat' (first | (simp (disch := omega) only [push_cast, ↓zz, seval, an_tup]) | omega | (with_reducible refine And.intro ?_ ?_))))
theorem values_4 (bs dr tk up sm : Int) (p0 p1 p2 p3 : Part) (sets : List (List Span)) (hs : smallB sm = true) (hS : SetsOk [p0, p1, p2, p3] sets) :
    PC Try.prog 101 [termV ⟨bs, dr, tk, up, sm, [p0, p1, p2, p3]⟩, guardsV sets] (.tup [spansV (valsL ⟨bs, dr, tk, up, sm, [p0, p1, p2, p3]⟩ sets), .bool (inSym (valsL ⟨bs, dr, tk, up, sm, [p0, p1, p2, p3]⟩ sets))]) := by
  rcases Classical.em (p1.at_ = p0.at_) with e1 | x01
  · skip
    rcases Classical.em (p2.at_ = p0.at_) with e2 | x02
    · skip
      rcases Classical.em (p3.at_ = p0.at_) with e3 | x03
      · skip
        exact values_4_0 bs dr tk up sm p0 p1 p2 p3 sets hs hS e1 e2 e3
      have n03 : ¬ p0.at_ = p3.at_ := fun h => x03 h.symm
      exact values_4_1 bs dr tk up sm p0 p1 p2 p3 sets hs hS e1 e2 n03
    have n02 : ¬ p0.at_ = p2.at_ := fun h => x02 h.symm
    rcases Classical.em (p3.at_ = p0.at_) with e3 | x03
    · skip
      exact values_4_2 bs dr tk up sm p0 p1 p2 p3 sets hs hS e1 e3 n02
    have n03 : ¬ p0.at_ = p3.at_ := fun h => x03 h.symm
    rcases Classical.em (p3.at_ = p2.at_) with e3 | x23
    · skip
      exact values_4_3 bs dr tk up sm p0 p1 p2 p3 sets hs hS e1 e3 n02
    have n23 : ¬ p2.at_ = p3.at_ := fun h => x23 h.symm
    exact values_4_4 bs dr tk up sm p0 p1 p2 p3 sets hs hS e1 n02 n03 n23
  have n01 : ¬ p0.at_ = p1.at_ := fun h => x01 h.symm
  rcases Classical.em (p2.at_ = p0.at_) with e2 | x02
  · skip
    rcases Classical.em (p3.at_ = p0.at_) with e3 | x03
    · skip
      exact values_4_5 bs dr tk up sm p0 p1 p2 p3 sets hs hS e2 e3 n01
    have n03 : ¬ p0.at_ = p3.at_ := fun h => x03 h.symm
    rcases Classical.em (p3.at_ = p1.at_) with e3 | x13
    · skip
      exact values_4_6 bs dr tk up sm p0 p1 p2 p3 sets hs hS e2 e3 n01
    have n13 : ¬ p1.at_ = p3.at_ := fun h => x13 h.symm
    exact values_4_7 bs dr tk up sm p0 p1 p2 p3 sets hs hS e2 n01 n03 n13
  have n02 : ¬ p0.at_ = p2.at_ := fun h => x02 h.symm
  rcases Classical.em (p2.at_ = p1.at_) with e2 | x12
  · skip
    rcases Classical.em (p3.at_ = p0.at_) with e3 | x03
    · skip
      exact values_4_8 bs dr tk up sm p0 p1 p2 p3 sets hs hS e2 e3 n01
    have n03 : ¬ p0.at_ = p3.at_ := fun h => x03 h.symm
    rcases Classical.em (p3.at_ = p1.at_) with e3 | x13
    · skip
      exact values_4_9 bs dr tk up sm p0 p1 p2 p3 sets hs hS e2 e3 n01
    have n13 : ¬ p1.at_ = p3.at_ := fun h => x13 h.symm
    exact values_4_10 bs dr tk up sm p0 p1 p2 p3 sets hs hS e2 n01 n03 n13
  have n12 : ¬ p1.at_ = p2.at_ := fun h => x12 h.symm
  rcases Classical.em (p3.at_ = p0.at_) with e3 | x03
  · skip
    exact values_4_11 bs dr tk up sm p0 p1 p2 p3 sets hs hS e3 n01 n02 n12
  have n03 : ¬ p0.at_ = p3.at_ := fun h => x03 h.symm
  rcases Classical.em (p3.at_ = p1.at_) with e3 | x13
  · skip
    exact values_4_12 bs dr tk up sm p0 p1 p2 p3 sets hs hS e3 n01 n02 n12
  have n13 : ¬ p1.at_ = p3.at_ := fun h => x13 h.symm
  rcases Classical.em (p3.at_ = p2.at_) with e3 | x23
  · skip
    exact values_4_13 bs dr tk up sm p0 p1 p2 p3 sets hs hS e3 n01 n02 n12
  have n23 : ¬ p2.at_ = p3.at_ := fun h => x23 h.symm
  exact values_4_14 bs dr tk up sm p0 p1 p2 p3 sets hs hS n01 n02 n03 n12 n13 n23
theorem term_values (t : Term) (sets : List (List Span)) (hl : t.parts.length ≤ 4) (hs : smallB t.sum = true) (hS : SetsOk t.parts sets) :
    PC Try.prog 101 [termV t, guardsV sets] (.tup [spansV (valsL t sets), .bool (inSym (valsL t sets))]) := by
  obtain ⟨bs, dr, tk, up, sm, l⟩ := t
  match l, hl, hS with
  | [], _, hS => exact values_0 bs dr tk up sm sets hs hS
  | [p0], _, hS => exact values_1 bs dr tk up sm p0 sets hs hS
  | [p0, p1], _, hS => exact values_2 bs dr tk up sm p0 p1 sets hs hS
  | [p0, p1, p2], _, hS => exact values_3 bs dr tk up sm p0 p1 p2 sets hs hS
  | [p0, p1, p2, p3], _, hS => exact values_4 bs dr tk up sm p0 p1 p2 p3 sets hs hS
  | _ :: _ :: _ :: _ :: _ :: _, hl, _ => simp at hl
end Go.Proofs.Yticodgjinajkpaa
set_option linter.unusedSimpArgs false
set_option linter.unusedVariables false
namespace Go.Proofs.Yticodgjinajkpaa
open Abs
def midG (gs : List (List Span)) (k : Nat) : List (List Span) := (gs.take k).map symI ++ List.replicate (gs.length - k) []
theorem midG_len {gs : List (List Span)} {k : Nat} (h : k ≤ gs.length) : (midG gs k).length = gs.length := by simp [midG]; omega
theorem midG_end (gs : List (List Span)) : midG gs gs.length = gs.map symI := by simp [midG]
theorem midG_set {gs : List (List Span)} {k : Nat} (h : k < gs.length) : ((midG gs k).map spansV).set k (spansV (symI (nth gs k))) = (midG gs (k + 1)).map spansV := by
  have e : gs.length - k = (gs.length - (k + 1)) + 1 := by omega
  rw [midG, midG, take_at h, e, List.replicate_succ, List.map_append, List.set_append_right _ _ (by simp; omega)]
  simp [show min k gs.length = k by omega]
theorem midG_at {gs : List (List Span)} {k : Nat} (h : k < gs.length) : nth (midG gs (k + 1)) k = symI (nth gs k) := by
  rw [midG, take_at h, nth, List.getD_eq_getElem?_getD, List.map_append, List.append_assoc, List.getElem?_append_right (by simp; omega)]
  simp [show min k gs.length = k by omega]
theorem pure_rep (n : Nat) : pureL (List.replicate n AV.nilS) = true := by
  induction n with
  | zero => rfl
  | succ n ih => simp [List.replicate_succ, pureL, AV.pure, ih]
theorem midG_nil (l : List Grp) (gs : List (List Span)) : leSL l (List.replicate gs.length .nilS) ((midG gs 0).map spansV) := by
  simp only [midG, List.take_zero, List.map_nil, List.nil_append, Nat.sub_zero, List.map_replicate]
  generalize gs.length = n
  induction n with
  | zero => rfl
  | succ n ih => exact ⟨⟨by decide, rfl⟩, ih⟩
def someB (gs : List (List Span)) (k : Nat) : Bool := (gs.take k).all fun g => decide (0 < ((symI g).length : Int))
theorem someB_at {gs : List (List Span)} {k : Nat} (h : k < gs.length) : someB gs (k + 1) = (someB gs k && decide (0 < ((symI (nth gs k)).length : Int))) := by
  rw [someB, take_at h, List.all_append]; simp [someB]
def prtB (t : Term) (n : Int) : Bool := t.parts.all fun p => rightB p n
def innerV (t : Term) (gs : List (List Span)) : List Span × Bool :=
  if 4 < gs.length ∨ numbersB t = false then ([], false) else if prtB t gs.length = false then ([], false) else
    if someB gs gs.length = false then ([], true) else (valsL t (gs.map symI), inSym (valsL t (gs.map symI)))
theorem prt_at {l : List Part} {n : Int} {k : Nat} (h : k < l.length) : (l.drop k).all (fun p => rightB p n) = (rightB (nth l k) n && (l.drop (k + 1)).all fun p => rightB p n) := by rw [drop_at h, List.all_cons]
theorem setsOk_sym {t : Term} {gs : List (List Span)} (h : prtB t gs.length = true) (hg : gs.length ≤ 4) : SetsOk t.parts (gs.map symI) where
  parts p hp := by
    rw [List.length_map]
    exact List.all_eq_true.1 h p hp
  syms s hs := by
    obtain ⟨g, _, rfl⟩ := List.mem_map.1 hs
    exact symI_syms g
  many := by simp; omega
theorem term_inner (t : Term) (gs : List (List Span)) (ht : t.parts.length < 1000000000000) (hg : ∀ g ∈ gs, g.length ≤ 1000000) (hl : gs.length ≤ 9223372036854775807) :
    PC Try.prog 80 [termV t, guardsV gs] (.tup [spansV (innerV t gs).1, .bool (innerV t gs).2]) := by
  have hP := pure_guards gs
  have hN := term_numbers t ht
  have hY := term_symbols
  refine pc_w' c_term_inner ?_
  unfold B_term_inner
  by_cases h1 : 4 < gs.length ∨ numbersB t = false
  · rw [innerV, if_pos h1]
    (repeat' (first | (simp (disch := omega) only [push_cast, ↓zz, seval]) | (with_reducible refine And.intro ?_ ?_) | (with_reducible refine condW_split ?_ ?_ <;> intro hc <;> (try simp only [push_cast] at hc)) | (with_reducible refine guardW_split ?_ ?_ <;> intro hc <;> (try simp only [push_cast] at hc)) | ((with_reducible first | refine eK hN ?_ | refine eQ hN ?_ | refine eG hN ?_)) | ((with_reducible first | refine cK hN ?_ | refine cQ hN ?_ | refine cG hN ?_); (simp (disch := omega) only [push_cast, ↓zz, seval]); (fail_if_success (with_reducible change False))) | omega | (with_reducible intro _)))
    all_goals first
      | ((repeat' (first | (simp (disch := omega) only [push_cast, ↓zz, seval, an_tup]) | omega | (with_reducible refine And.intro ?_ ?_))); done)
      | (exfalso; rcases h1 with h1 | h1 <;> first | omega | simp_all)
  have h4 : gs.length ≤ 4 := by omega
  have hn : numbersB t = true := by simpa using (not_or.1 h1).2
  (repeat' (first | (simp (disch := omega) only [push_cast, ↓zz, seval, hn]) | (with_reducible refine And.intro ?_ ?_) | (with_reducible refine condW_split ?_ ?_ <;> intro hc <;> (try simp only [push_cast] at hc)) | (with_reducible refine guardW_split ?_ ?_ <;> intro hc <;> (try simp only [push_cast] at hc)) | ((with_reducible first | refine eK hN ?_ | refine eQ hN ?_ | refine eG hN ?_)) | ((with_reducible first | refine cK hN ?_ | refine cQ hN ?_ | refine cG hN ?_); (simp (disch := omega) only [push_cast, ↓zz, seval, hn]); (fail_if_success (with_reducible change False))) | omega | (with_reducible intro _)))
  refine LoopK_T (T_loopR (fun (k : Nat) => k ≤ gs.length) (fun k => gs.length - k)
    (fun k => [(1, guardsV gs), (2, .ptr 0 1 0 0), (6, .bool (someB gs k)), (7, .ref 1 1 0 gs.length), (23, guardsV gs), (24, .int .i64 gs.length), (25, .int .i64 k)]) (fun k => [⟨6, 1, true, [termV t]⟩, ⟨1, 1, true, (midG gs k).map spansV⟩]) (fun env _ => [srcOf 1 (env 2), srcOf 1 (env 7)]) 0 (by simp) ?_ ?_)
  · have e := midG_nil
    have hr : pureL (List.replicate gs.length AV.nilS) = true := pure_rep gs.length
    have hs0 : someB gs 0 = true := rfl
    (repeat' (first | (simp (disch := omega) only [push_cast, ↓zz, seval, hs0, hP, hr]) | (with_reducible refine And.intro ?_ ?_) | (with_reducible refine condW_split ?_ ?_ <;> intro hc <;> (try simp only [push_cast] at hc)) | (with_reducible refine guardW_split ?_ ?_ <;> intro hc <;> (try simp only [push_cast] at hc)) | omega | (with_reducible intro _)))
    all_goals exact e _ gs
  intro k hk
  have hml := midG_len hk
  have hpm := pure_guards (midG gs k)
  rcases Nat.lt_or_ge k gs.length with hkl | hkl
  · have hM := span_Meet (nth gs k) [⟨0, 1114111⟩] (by have := hg _ (nth_mem hkl); omega) (by simp)
    rw [sym_meet] at hM
    have e1 := midG_set hkl
    have e2 := midG_at hkl
    have e3 := someB_at hkl
    have hpm2 := pure_guards (midG gs (k + 1))
    have hml2 := midG_len (gs := gs) (k := k + 1) (by omega)
    refine W_T ?_
    (repeat' (first | (simp (disch := omega) only [push_cast, ↓zz, seval, hP, hpm, hpm2, hml, hml2, e1, e2]) | (with_reducible refine And.intro ?_ ?_) | (with_reducible refine condW_split ?_ ?_ <;> intro hc <;> (try simp only [push_cast] at hc)) | (with_reducible refine guardW_split ?_ ?_ <;> intro hc <;> (try simp only [push_cast] at hc)) | ((with_reducible first | refine eK hY ?_ | refine eQ hY ?_ | refine eG hY ?_)) | ((with_reducible first | refine eK hM ?_ | refine eQ hM ?_ | refine eG hM ?_)) | ((with_reducible first | refine cK hY ?_ | refine cQ hY ?_ | refine cG hY ?_); (simp (disch := omega) only [push_cast, ↓zz, seval, hP, hpm, hpm2, hml, hml2, e1, e2]); (fail_if_success (with_reducible change False))) | ((with_reducible first | refine cK hM ?_ | refine cQ hM ?_ | refine cG hM ?_); (simp (disch := omega) only [push_cast, ↓zz, seval, hP, hpm, hpm2, hml, hml2, e1, e2]); (fail_if_success (with_reducible change False))) | omega | (with_reducible intro _)))
    all_goals
      refine ⟨k + 1, ?_⟩
      (repeat' (first | (simp (disch := omega) only [push_cast, ↓zz, seval, e3]) | (with_reducible refine And.intro ?_ ?_) | (with_reducible refine condW_split ?_ ?_ <;> intro hc <;> (try simp only [push_cast] at hc)) | (with_reducible refine guardW_split ?_ ?_ <;> intro hc <;> (try simp only [push_cast] at hc)) | omega | (with_reducible intro _)))
    all_goals (simp only [*, Bool.true_and, Bool.false_and])
  · obtain rfl : k = gs.length := by omega
    rw [midG_end] at *
    refine W_T ?_
    (repeat' (first | (simp (disch := omega) only [push_cast, ↓zz, seval, hP, hpm]) | (with_reducible refine And.intro ?_ ?_) | (with_reducible refine condW_split ?_ ?_ <;> intro hc <;> (try simp only [push_cast] at hc)) | (with_reducible refine guardW_split ?_ ?_ <;> intro hc <;> (try simp only [push_cast] at hc)) | omega | (with_reducible intro _)))
    refine LoopK_T (T_loopR (fun (k : Nat) => k ≤ t.parts.length ∧ prtB t gs.length = (t.parts.drop k).all fun p => rightB p gs.length) (fun k => t.parts.length - k)
      (fun k => [(1, guardsV gs), (2, .ptr 0 1 0 0), (6, .bool (someB gs gs.length)), (7, guardsV (gs.map symI)), (47, partsV t.parts), (48, .int .i64 t.parts.length), (49, .int .i64 k)]) (fun k => [⟨6, 1, true, [termV t]⟩]) (fun env _ => [srcOf 1 (env 2)]) 0 ⟨by simp, rfl⟩ ?_ ?_)
    · have et : List.take gs.length (gs.map symI) = gs.map symI := List.take_of_length_le (by simp)
      (repeat' (first | (simp (disch := omega) only [push_cast, ↓zz, seval, hP, hpm, et]) | (with_reducible refine And.intro ?_ ?_) | (with_reducible refine condW_split ?_ ?_ <;> intro hc <;> (try simp only [push_cast] at hc)) | (with_reducible refine guardW_split ?_ ?_ <;> intro hc <;> (try simp only [push_cast] at hc)) | omega | (with_reducible intro _)))
    rintro k ⟨k1, k2⟩
    rcases Nat.lt_or_ge k t.parts.length with hkp | hkp
    · have hR := part_Right (nth t.parts k) gs.length
      rw [prt_at hkp] at k2
      refine W_T ?_
      (repeat' (first | (simp (disch := omega) only [push_cast, ↓zz, seval, hP, hpm]) | (with_reducible refine And.intro ?_ ?_) | (with_reducible refine condW_split ?_ ?_ <;> intro hc <;> (try simp only [push_cast] at hc)) | (with_reducible refine guardW_split ?_ ?_ <;> intro hc <;> (try simp only [push_cast] at hc)) | ((with_reducible first | refine eK hR ?_ | refine eQ hR ?_ | refine eG hR ?_)) | ((with_reducible first | refine cK hR ?_ | refine cQ hR ?_ | refine cG hR ?_); (simp (disch := omega) only [push_cast, ↓zz, seval, hP, hpm]); (fail_if_success (with_reducible change False))) | omega | (with_reducible intro _)))
      · have hp : prtB t gs.length = false := by rw [k2]; simp [*]
        rw [innerV, if_neg h1, if_pos hp]
        (repeat' (first | (simp (disch := omega) only [push_cast, ↓zz, seval, an_tup]) | omega | (with_reducible refine And.intro ?_ ?_)))
      · exact ⟨k + 1, by push_cast, ⟨by omega, by rw [k2]; simp [*]⟩, by omega⟩
    · rw [List.drop_of_length_le hkp] at k2
      have hp : prtB t gs.length = true := k2
      have hnum := hn
      simp only [numbersB, Bool.and_eq_true, decide_eq_true_eq] at hnum
      have hV := term_values t (gs.map symI) hnum.2.2 hnum.1.1.2 (setsOk_sym hp h4)
      have hI : innerV t gs = if someB gs gs.length = false then ([], true) else (valsL t (gs.map symI), inSym (valsL t (gs.map symI))) := by rw [innerV, if_neg h1, if_neg (by simp [hp])]
      refine W_T ?_
      (repeat' (first | (simp (disch := omega) only [push_cast, ↓zz, seval, hP, hpm]) | (with_reducible refine And.intro ?_ ?_) | (with_reducible refine condW_split ?_ ?_ <;> intro hc <;> (try simp only [push_cast] at hc)) | (with_reducible refine guardW_split ?_ ?_ <;> intro hc <;> (try simp only [push_cast] at hc)) | ((with_reducible first | refine eK hV ?_ | refine eQ hV ?_ | refine eG hV ?_)) | ((with_reducible first | refine cK hV ?_ | refine cQ hV ?_ | refine cG hV ?_); (simp (disch := omega) only [push_cast, ↓zz, seval, hP, hpm]); (fail_if_success (with_reducible change False))) | omega | (with_reducible intro _)))
      all_goals
        rw [hI]
        first
          | rw [if_pos (by assumption)]
          | rw [if_neg (by simp [*])]
        (repeat' (first | (simp (disch := omega) only [push_cast, ↓zz, seval, an_tup]) | omega | (with_reducible refine And.intro ?_ ?_)))
      all_goals trace_state
def imageV (t : Term) (gs : List (List Span)) : List Span × Bool :=
  if (innerV t gs).2 = false then ([], false) else if (innerV t gs).1.length = 0 then ([], true) else (moveL (imgL t.outer (innerV t gs).1) t.base, true)
theorem inner_acc (t : Term) (gs : List (List Span)) (h : smallB t.sum = true) : (innerV t gs).1.length ≤ 2147483649 := by
  unfold innerV
  repeat' split
  all_goals first | (simp; done) | skip
  unfold valsL
  have key : ∀ (pl : List Int) (out : List Span), Acc out → Acc (pl.foldl (valsF t.parts (gs.map symI)) out) := fun pl => by
    induction pl with
    | nil => exact fun out h => h
    | cons a pl ih => exact fun out h => ih _ (plus_acc _ _)
  exact (key _ _ (acc_one h)).2
theorem term_Image (t : Term) (gs : List (List Span)) (ht : t.parts.length < 1000000000000) (hg : ∀ g ∈ gs, g.length ≤ 1000000) (hl : gs.length ≤ 9223372036854775807) :
    PC Try.prog 68 [termV t, guardsV gs] (.tup [spansV (imageV t gs).1, .bool (imageV t gs).2]) := by
  have hP := pure_guards gs
  have hI := term_inner t gs ht hg hl
  have hO := term_outer t
  have hlen : (innerV t gs).2 = true → (innerV t gs).1.length ≤ 2147483649 := fun h => by
    by_cases hs : smallB t.sum = true
    · exact inner_acc t gs hs
    · have : numbersB t = false := by simp [numbersB, hs]
      rw [innerV, if_pos (.inr this)] at h
      cases h
  refine pc_w' c_term_Image ?_
  unfold B_term_Image
  rcases Bool.eq_false_or_eq_true (innerV t gs).2 with h2 | h2
  · have hl2 := hlen h2
    have hA := imgL_acc t.outer (innerV t gs).1
    have hM := part_Image t.outer (innerV t gs).1 (by omega)
    have hV := span_Move (imgL t.outer (innerV t gs).1) t.base (by have := hA.2; omega)
    (repeat' (first | (simp (disch := omega) only [push_cast, ↓zz, seval, hP, h2]) | (with_reducible refine And.intro ?_ ?_) | (with_reducible refine condW_split ?_ ?_ <;> intro hc <;> (try simp only [push_cast] at hc)) | (with_reducible refine guardW_split ?_ ?_ <;> intro hc <;> (try simp only [push_cast] at hc)) | ((with_reducible first | refine eK hI ?_ | refine eQ hI ?_ | refine eG hI ?_)) | ((with_reducible first | refine eK hO ?_ | refine eQ hO ?_ | refine eG hO ?_)) | ((with_reducible first | refine eK hM ?_ | refine eQ hM ?_ | refine eG hM ?_)) | ((with_reducible first | refine eK hV ?_ | refine eQ hV ?_ | refine eG hV ?_)) | ((with_reducible first | refine cK hI ?_ | refine cQ hI ?_ | refine cG hI ?_); (simp (disch := omega) only [push_cast, ↓zz, seval, hP, h2]); (fail_if_success (with_reducible change False))) | ((with_reducible first | refine cK hO ?_ | refine cQ hO ?_ | refine cG hO ?_); (simp (disch := omega) only [push_cast, ↓zz, seval, hP, h2]); (fail_if_success (with_reducible change False))) | ((with_reducible first | refine cK hM ?_ | refine cQ hM ?_ | refine cG hM ?_); (simp (disch := omega) only [push_cast, ↓zz, seval, hP, h2]); (fail_if_success (with_reducible change False))) | ((with_reducible first | refine cK hV ?_ | refine cQ hV ?_ | refine cG hV ?_); (simp (disch := omega) only [push_cast, ↓zz, seval, hP, h2]); (fail_if_success (with_reducible change False))) | omega | (with_reducible intro _)))
    all_goals
      rw [imageV, if_neg (by simp [h2])]
      first
        | rw [if_pos (by omega)]
        | rw [if_neg (by omega)]
      (repeat' (first | (simp (disch := omega) only [push_cast, ↓zz, seval, an_tup]) | omega | (with_reducible refine And.intro ?_ ?_)))
  · (repeat' (first | (simp (disch := omega) only [push_cast, ↓zz, seval, hP, h2]) | (with_reducible refine And.intro ?_ ?_) | (with_reducible refine condW_split ?_ ?_ <;> intro hc <;> (try simp only [push_cast] at hc)) | (with_reducible refine guardW_split ?_ ?_ <;> intro hc <;> (try simp only [push_cast] at hc)) | ((with_reducible first | refine eK hI ?_ | refine eQ hI ?_ | refine eG hI ?_)) | ((with_reducible first | refine cK hI ?_ | refine cQ hI ?_ | refine cG hI ?_); (simp (disch := omega) only [push_cast, ↓zz, seval, hP, h2]); (fail_if_success (with_reducible change False))) | omega | (with_reducible intro _)))
    all_goals
      rw [imageV, if_pos h2]
      (repeat' (first | (simp (disch := omega) only [push_cast, ↓zz, seval, an_tup]) | omega | (with_reducible refine And.intro ?_ ?_)))
def fitsT (t : Term) (i o : Int) (gs : List (List Span)) : Bool := rightT t i o gs.length && ((imageV t gs).2 && decide (minusL (imageV t gs).1 (domL o) = []))
theorem image_len (t : Term) (gs : List (List Span)) : (imageV t gs).1.length ≤ 2147483649 := by
  unfold imageV
  repeat' split
  all_goals first | (simp; done) | skip
  have h1 := (imgL_acc t.outer (innerV t gs).1).2
  have h2 := move_len (imgL t.outer (innerV t gs).1) t.base
  simp only
  omega
theorem dom_len (s : Int) : (domL s).length ≤ 2 := by unfold domL; split <;> (try split) <;> simp
theorem term_Fits (t : Term) (i o : Int) (gs : List (List Span)) (ht : t.parts.length < 1000000000000) (hg : ∀ g ∈ gs, g.length ≤ 1000000) (hl : gs.length ≤ 9223372036854775807) :
    PC Try.prog 52 [termV t, .int .i64 i, .int .i64 o, guardsV gs] (.bool (fitsT t i o gs)) := by
  have hP := pure_guards gs
  have hR := term_Right t i o gs.length ht
  have hI := term_Image t gs ht hg hl
  have hD := word_Domain o
  have hW := span_Within (imageV t gs).1 (domL o) (by have := image_len t gs; omega) (by have := dom_len o; omega)
  refine pc_w' c_term_Fits ?_
  unfold B_term_Fits fitsT
  (repeat' (first | (simp (disch := omega) only [push_cast, ↓zz, seval, hP]) | (with_reducible refine And.intro ?_ ?_) | (with_reducible refine condW_split ?_ ?_ <;> intro hc <;> (try simp only [push_cast] at hc)) | (with_reducible refine guardW_split ?_ ?_ <;> intro hc <;> (try simp only [push_cast] at hc)) | ((with_reducible first | refine eK hR ?_ | refine eQ hR ?_ | refine eG hR ?_)) | ((with_reducible first | refine eK hI ?_ | refine eQ hI ?_ | refine eG hI ?_)) | ((with_reducible first | refine eK hD ?_ | refine eQ hD ?_ | refine eG hD ?_)) | ((with_reducible first | refine eK hW ?_ | refine eQ hW ?_ | refine eG hW ?_)) | ((with_reducible first | refine cK hR ?_ | refine cQ hR ?_ | refine cG hR ?_); (simp (disch := omega) only [push_cast, ↓zz, seval, hP]); (fail_if_success (with_reducible change False))) | ((with_reducible first | refine cK hI ?_ | refine cQ hI ?_ | refine cG hI ?_); (simp (disch := omega) only [push_cast, ↓zz, seval, hP]); (fail_if_success (with_reducible change False))) | ((with_reducible first | refine cK hD ?_ | refine cQ hD ?_ | refine cG hD ?_); (simp (disch := omega) only [push_cast, ↓zz, seval, hP]); (fail_if_success (with_reducible change False))) | ((with_reducible first | refine cK hW ?_ | refine cQ hW ?_ | refine cG hW ?_); (simp (disch := omega) only [push_cast, ↓zz, seval, hP]); (fail_if_success (with_reducible change False))) | omega | (with_reducible intro _)))
  all_goals simp only [*, Bool.true_and, Bool.false_and]
end Go.Proofs.Yticodgjinajkpaa
set_option linter.unusedSimpArgs false
set_option linter.unusedVariables false
namespace Go.Proofs.Yticodgjinajkpaa
open Abs
def checkF : Int → List Span → Bool
  | _, [] => true
  | last, s :: l => decide (s.lo ≤ s.hi ∧ -1073741824 ≤ s.lo ∧ s.hi ≤ 1073741824 ∧ last + 1 < s.lo) && checkF s.hi l
def checkB (g : List Span) : Bool := checkF (-1073741826) g
theorem span_Check (g : List Span) (hl : g.length ≤ 9223372036854775807) : PC Try.prog 50 [spansV g] (.bool (checkB g)) := by
  refine pc_w' c_span_Check ?_
  unfold B_span_Check
  (repeat' (first | (simp (disch := omega) only [push_cast, ↓zz, seval]) | (with_reducible refine And.intro ?_ ?_) | (with_reducible refine condW_split ?_ ?_ <;> intro hc <;> (try simp only [push_cast] at hc)) | (with_reducible refine guardW_split ?_ ?_ <;> intro hc <;> (try simp only [push_cast] at hc)) | omega | (with_reducible intro _)))
  refine LoopK_T (T_loopR (fun (s : Nat × Int) => s.1 ≤ g.length ∧ checkB g = checkF s.2 (g.drop s.1) ∧ -1073741826 ≤ s.2 ∧ s.2 ≤ 1073741824) (fun s => g.length - s.1)
    (fun s => [(3, .int .i64 s.2), (6, spansV g), (7, .int .i64 g.length), (8, .int .i64 s.1)]) (fun s => []) (fun _ _ => []) (0, -1073741826) ⟨by simp, rfl, by simp, by simp⟩ ?_ ?_)
  · (repeat' (first | (simp (disch := omega) only [push_cast, ↓zz, seval]) | (with_reducible refine And.intro ?_ ?_) | (with_reducible refine condW_split ?_ ?_ <;> intro hc <;> (try simp only [push_cast] at hc)) | (with_reducible refine guardW_split ?_ ?_ <;> intro hc <;> (try simp only [push_cast] at hc)) | omega | (with_reducible intro _)))
  rintro ⟨k, last⟩ ⟨h1, h2, h3, h4⟩
  simp only at h1 h2 h3 h4
  rcases Nat.lt_or_ge k g.length with hk | hk
  · rw [drop_at hk, checkF] at h2
    generalize hxe : nth g k = x at *
    have hw : IntKind.i64.wrap (last + 1) = last + 1 := IntWalk.i64_in _ (by omega)
    refine W_T ?_
    (repeat' (first | (simp (disch := omega) only [push_cast, ↓zz, seval, hw, hxe]) | (with_reducible refine And.intro ?_ ?_) | (with_reducible refine condW_split ?_ ?_ <;> intro hc <;> (try simp only [push_cast] at hc)) | (with_reducible refine guardW_split ?_ ?_ <;> intro hc <;> (try simp only [push_cast] at hc)) | omega | (with_reducible intro _)))
    all_goals first
      | (rw [h2, decide_eq_false (by omega), Bool.false_and]; done)
      | exact ⟨(k + 1, x.hi), ⟨rfl, by push_cast⟩, ⟨by simp only; omega, by rw [h2, decide_eq_true (by omega), Bool.true_and], by simp only; omega, by simp only; omega⟩, by simp only; omega⟩
  · rw [List.drop_of_length_le hk, checkF] at h2
    refine W_T ?_
    (repeat' (first | (simp (disch := omega) only [push_cast, ↓zz, seval, h2]) | (with_reducible refine And.intro ?_ ?_) | (with_reducible refine condW_split ?_ ?_ <;> intro hc <;> (try simp only [push_cast] at hc)) | (with_reducible refine guardW_split ?_ ?_ <;> intro hc <;> (try simp only [push_cast] at hc)) | omega | (with_reducible intro _)))
    all_goals trace_state
def guardB (i : Int) (g : List Span) : Bool := !decide ((g.length : Int) = 0) && (decide ((g.length : Int) ≤ 64) && (checkB g && decide (minusL g (domL i) = [])))
def guardsB (i : Int) (gs : List (List Span)) : Bool := decide ((gs.length : Int) ≤ 4) && gs.all (guardB i)
theorem desc_guards (i : Int) (gs : List (List Span)) : PC Try.prog 32 [.int .i64 i, guardsV gs] (.bool (guardsB i gs)) := by
  have hP := pure_guards gs
  have hD := word_Domain i
  have hdl := dom_len i
  refine pc_w' c_desc_guards ?_
  unfold B_desc_guards
  by_cases h4 : 4 < gs.length
  · rw [guardsB, decide_eq_false (by omega), Bool.false_and]
    (repeat' (first | (simp (disch := omega) only [push_cast, ↓zz, seval]) | (with_reducible refine And.intro ?_ ?_) | (with_reducible refine condW_split ?_ ?_ <;> intro hc <;> (try simp only [push_cast] at hc)) | (with_reducible refine guardW_split ?_ ?_ <;> intro hc <;> (try simp only [push_cast] at hc)) | omega | (with_reducible intro _)))
  rw [guardsB, decide_eq_true (by omega), Bool.true_and]
  (repeat' (first | (simp (disch := omega) only [push_cast, ↓zz, seval]) | (with_reducible refine And.intro ?_ ?_) | (with_reducible refine condW_split ?_ ?_ <;> intro hc <;> (try simp only [push_cast] at hc)) | (with_reducible refine guardW_split ?_ ?_ <;> intro hc <;> (try simp only [push_cast] at hc)) | ((with_reducible first | refine eK hD ?_ | refine eQ hD ?_ | refine eG hD ?_)) | ((with_reducible first | refine cK hD ?_ | refine cQ hD ?_ | refine cG hD ?_); (simp (disch := omega) only [push_cast, ↓zz, seval]); (fail_if_success (with_reducible change False))) | omega | (with_reducible intro _)))
  refine LoopK_T (T_loopR (fun (k : Nat) => k ≤ gs.length ∧ gs.all (guardB i) = (gs.drop k).all (guardB i)) (fun k => gs.length - k)
    (fun k => [(5, spansV (domL i)), (13, guardsV gs), (14, .int .i64 gs.length), (15, .int .i64 k)]) (fun s => []) (fun _ _ => []) 0 ⟨by simp, rfl⟩ ?_ ?_)
  · (repeat' (first | (simp (disch := omega) only [push_cast, ↓zz, seval, hP]) | (with_reducible refine And.intro ?_ ?_) | (with_reducible refine condW_split ?_ ?_ <;> intro hc <;> (try simp only [push_cast] at hc)) | (with_reducible refine guardW_split ?_ ?_ <;> intro hc <;> (try simp only [push_cast] at hc)) | omega | (with_reducible intro _)))
  rintro k ⟨h1, h2⟩
  rcases Nat.lt_or_ge k gs.length with hk | hk
  · rw [drop_at hk, List.all_cons, guardB] at h2
    generalize hge : nth gs k = g at *
    refine W_T ?_
    by_cases hl : (g.length : Int) = 0
    · rw [decide_eq_true hl, Bool.not_true, Bool.false_and, Bool.false_and] at h2
      (repeat' (first | (simp (disch := omega) only [push_cast, ↓zz, seval, hP, hge, h2]) | (with_reducible refine And.intro ?_ ?_) | (with_reducible refine condW_split ?_ ?_ <;> intro hc <;> (try simp only [push_cast] at hc)) | (with_reducible refine guardW_split ?_ ?_ <;> intro hc <;> (try simp only [push_cast] at hc)) | omega | (with_reducible intro _)))
    by_cases hl2 : (g.length : Int) ≤ 64
    · rw [decide_eq_false hl, decide_eq_true hl2, Bool.not_false, Bool.true_and, Bool.true_and] at h2
      have hW := span_Within g (domL i) (by omega) (by omega)
      have hC := span_Check g (by omega)
      (repeat' (first | (simp (disch := omega) only [push_cast, ↓zz, seval, hP, hge]) | (with_reducible refine And.intro ?_ ?_) | (with_reducible refine condW_split ?_ ?_ <;> intro hc <;> (try simp only [push_cast] at hc)) | (with_reducible refine guardW_split ?_ ?_ <;> intro hc <;> (try simp only [push_cast] at hc)) | ((with_reducible first | refine eK hC ?_ | refine eQ hC ?_ | refine eG hC ?_)) | ((with_reducible first | refine eK hW ?_ | refine eQ hW ?_ | refine eG hW ?_)) | ((with_reducible first | refine cK hC ?_ | refine cQ hC ?_ | refine cG hC ?_); (simp (disch := omega) only [push_cast, ↓zz, seval, hP, hge]); (fail_if_success (with_reducible change False))) | ((with_reducible first | refine cK hW ?_ | refine cQ hW ?_ | refine cG hW ?_); (simp (disch := omega) only [push_cast, ↓zz, seval, hP, hge]); (fail_if_success (with_reducible change False))) | omega | (with_reducible intro _)))
      all_goals first
        | (rw [h2]; simp [*]; done)
        | exact ⟨k + 1, by push_cast, ⟨by omega, by rw [h2]; simp [*]⟩, by omega⟩
    · rw [decide_eq_false hl2, Bool.false_and, Bool.and_false, Bool.false_and] at h2
      (repeat' (first | (simp (disch := omega) only [push_cast, ↓zz, seval, hP, hge, h2]) | (with_reducible refine And.intro ?_ ?_) | (with_reducible refine condW_split ?_ ?_ <;> intro hc <;> (try simp only [push_cast] at hc)) | (with_reducible refine guardW_split ?_ ?_ <;> intro hc <;> (try simp only [push_cast] at hc)) | omega | (with_reducible intro _)))
  · rw [List.drop_of_length_le hk, List.all_nil] at h2
    refine W_T ?_
    (repeat' (first | (simp (disch := omega) only [push_cast, ↓zz, seval, hP, h2]) | (with_reducible refine And.intro ?_ ?_) | (with_reducible refine condW_split ?_ ?_ <;> intro hc <;> (try simp only [push_cast] at hc)) | (with_reducible refine guardW_split ?_ ?_ <;> intro hc <;> (try simp only [push_cast] at hc)) | omega | (with_reducible intro _)))
    all_goals trace_state
def stateB (d : Desc) (s : Int) : Bool := decide (0 ≤ s) && decide (s < d.states)
theorem desc_state (d : Desc) (s : Int) : PC Try.prog 31 [descV d, .int .i64 s] (.bool (stateB d s)) := by
  refine pc_w' c_desc_state ?_
  unfold B_desc_state stateB
  (repeat' (first | (simp (disch := omega) only [push_cast, ↓zz, seval]) | (with_reducible refine And.intro ?_ ?_) | (with_reducible refine condW_split ?_ ?_ <;> intro hc <;> (try simp only [push_cast] at hc)) | (with_reducible refine guardW_split ?_ ?_ <;> intro hc <;> (try simp only [push_cast] at hc)) | omega | (with_reducible intro _)))
  all_goals simp only [*, decide_true, decide_false, Bool.true_and, Bool.false_and]
def headB (d : Desc) : Bool := decide (0 < ((domL d.in_).length : Int)) && (decide (0 < ((domL d.out).length : Int)) && (decide (1 ≤ d.states) && (decide (d.states ≤ 1024) && (stateB d d.start && (decide ((d.rules.length : Int) ≤ 4096) && decide ((d.finals.length : Int) ≤ 4096))))))
theorem desc_head (d : Desc) : PC Try.prog 29 [descV d] (.bool (headB d)) := by
  have h1 := word_Domain d.in_
  have h2 := word_Domain d.out
  have h3 := desc_state d d.start
  refine pc_w' c_desc_head ?_
  unfold B_desc_head headB
  (repeat' (first | (simp (disch := omega) only [push_cast, ↓zz, seval]) | (with_reducible refine And.intro ?_ ?_) | (with_reducible refine condW_split ?_ ?_ <;> intro hc <;> (try simp only [push_cast] at hc)) | (with_reducible refine guardW_split ?_ ?_ <;> intro hc <;> (try simp only [push_cast] at hc)) | ((with_reducible first | refine eK h1 ?_ | refine eQ h1 ?_ | refine eG h1 ?_)) | ((with_reducible first | refine eK h2 ?_ | refine eQ h2 ?_ | refine eG h2 ?_)) | ((with_reducible first | refine eK h3 ?_ | refine eQ h3 ?_ | refine eG h3 ?_)) | ((with_reducible first | refine cK h1 ?_ | refine cQ h1 ?_ | refine cG h1 ?_); (simp (disch := omega) only [push_cast, ↓zz, seval]); (fail_if_success (with_reducible change False))) | ((with_reducible first | refine cK h2 ?_ | refine cQ h2 ?_ | refine cG h2 ?_); (simp (disch := omega) only [push_cast, ↓zz, seval]); (fail_if_success (with_reducible change False))) | ((with_reducible first | refine cK h3 ?_ | refine cQ h3 ?_ | refine cG h3 ?_); (simp (disch := omega) only [push_cast, ↓zz, seval]); (fail_if_success (with_reducible change False))) | omega | (with_reducible intro _)))
  all_goals simp only [*, decide_true, decide_false, Bool.true_and, Bool.false_and]
  all_goals trace_state
def writesB (d : Desc) (out : List Term) (gs : List (List Span)) : Bool := decide ((out.length : Int) ≤ 64) && out.all fun t => fitsT t d.in_ d.out gs
theorem desc_writes (d : Desc) (out : List Term) (gs : List (List Span)) (ho : ∀ t ∈ out, t.parts.length < 1000000000000) (hg : ∀ g ∈ gs, g.length ≤ 1000000) (hl : gs.length ≤ 9223372036854775807) :
    PC Try.prog 33 [descV d, termsV out, guardsV gs] (.bool (writesB d out gs)) := by
  have hP := pure_guards gs
  have hT := pure_terms out
  refine pc_w' c_desc_writes ?_
  unfold B_desc_writes
  by_cases h4 : 64 < out.length
  · rw [writesB, decide_eq_false (by omega), Bool.false_and]
    (repeat' (first | (simp (disch := omega) only [push_cast, ↓zz, seval]) | (with_reducible refine And.intro ?_ ?_) | (with_reducible refine condW_split ?_ ?_ <;> intro hc <;> (try simp only [push_cast] at hc)) | (with_reducible refine guardW_split ?_ ?_ <;> intro hc <;> (try simp only [push_cast] at hc)) | omega | (with_reducible intro _)))
  rw [writesB, decide_eq_true (by omega), Bool.true_and]
  (repeat' (first | (simp (disch := omega) only [push_cast, ↓zz, seval]) | (with_reducible refine And.intro ?_ ?_) | (with_reducible refine condW_split ?_ ?_ <;> intro hc <;> (try simp only [push_cast] at hc)) | (with_reducible refine guardW_split ?_ ?_ <;> intro hc <;> (try simp only [push_cast] at hc)) | omega | (with_reducible intro _)))
  refine LoopK_T (T_loopR (fun (k : Nat) => k ≤ out.length ∧ (out.all fun t => fitsT t d.in_ d.out gs) = (out.drop k).all fun t => fitsT t d.in_ d.out gs) (fun k => out.length - k)
    (fun k => [(2, guardsV gs), (3, .ptr 0 1 0 0), (12, termsV out), (13, .int .i64 out.length), (14, .int .i64 k)]) (fun s => [⟨6, 1, true, [descV d]⟩]) (fun env _ => [srcOf 1 (env 3)]) 0 ⟨by simp, rfl⟩ ?_ ?_)
  · (repeat' (first | (simp (disch := omega) only [push_cast, ↓zz, seval, hP, hT]) | (with_reducible refine And.intro ?_ ?_) | (with_reducible refine condW_split ?_ ?_ <;> intro hc <;> (try simp only [push_cast] at hc)) | (with_reducible refine guardW_split ?_ ?_ <;> intro hc <;> (try simp only [push_cast] at hc)) | omega | (with_reducible intro _)))
  rintro k ⟨h1, h2⟩
  rcases Nat.lt_or_ge k out.length with hk | hk
  · rw [drop_at hk, List.all_cons] at h2
    have hF := term_Fits (nth out k) d.in_ d.out gs (ho _ (nth_mem hk)) hg hl
    refine W_T ?_
    (repeat' (first | (simp (disch := omega) only [push_cast, ↓zz, seval, hP, hT]) | (with_reducible refine And.intro ?_ ?_) | (with_reducible refine condW_split ?_ ?_ <;> intro hc <;> (try simp only [push_cast] at hc)) | (with_reducible refine guardW_split ?_ ?_ <;> intro hc <;> (try simp only [push_cast] at hc)) | ((with_reducible first | refine eK hF ?_ | refine eQ hF ?_ | refine eG hF ?_)) | ((with_reducible first | refine cK hF ?_ | refine cQ hF ?_ | refine cG hF ?_); (simp (disch := omega) only [push_cast, ↓zz, seval, hP, hT]); (fail_if_success (with_reducible change False))) | omega | (with_reducible intro _)))
    all_goals first
      | (rw [h2]; simp [*]; done)
      | exact ⟨k + 1, by push_cast, ⟨by omega, by rw [h2]; simp [*]⟩, by omega⟩
  · rw [List.drop_of_length_le hk, List.all_nil] at h2
    refine W_T ?_
    (repeat' (first | (simp (disch := omega) only [push_cast, ↓zz, seval, hP, hT, h2]) | (with_reducible refine And.intro ?_ ?_) | (with_reducible refine condW_split ?_ ?_ <;> intro hc <;> (try simp only [push_cast] at hc)) | (with_reducible refine guardW_split ?_ ?_ <;> intro hc <;> (try simp only [push_cast] at hc)) | omega | (with_reducible intro _)))
    all_goals trace_state
def eatB (n e : Int) : Bool := !decide (e < min n 1) && !decide (n < e)
def ruleB (d : Desc) (r : Rule) : Bool := stateB d r.from_ && (stateB d r.to_ && (guardsB d.in_ r.guards && (eatB r.guards.length r.eat && writesB d r.out r.guards)))
theorem guards_short {i : Int} {gs : List (List Span)} (h : guardsB i gs = true) : gs.length ≤ 4 ∧ ∀ g ∈ gs, g.length ≤ 64 := by
  simp only [guardsB, Bool.and_eq_true, decide_eq_true_eq] at h
  refine ⟨by omega, fun g hg => ?_⟩
  have := List.all_eq_true.1 h.2 g hg
  simp only [guardB, Bool.and_eq_true, decide_eq_true_eq] at this
  omega
theorem desc_rule (d : Desc) (r : Rule) (ho : ∀ t ∈ r.out, t.parts.length < 1000000000000) : PC Try.prog 30 [descV d, ruleV r] (.bool (ruleB d r)) := by
  have h1 := desc_state d r.from_
  have h2 := desc_state d r.to_
  have h3 := desc_guards d.in_ r.guards
  have hP := pure_guards r.guards
  have hT := pure_terms r.out
  refine pc_w' c_desc_rule ?_
  unfold B_desc_rule ruleB eatB
  cases hg : guardsB d.in_ r.guards with
  | false =>
    rw [hg] at h3
    (repeat' (first | (simp (disch := omega) only [push_cast, ↓zz, seval, hP, hT]) | (with_reducible refine And.intro ?_ ?_) | (with_reducible refine condW_split ?_ ?_ <;> intro hc <;> (try simp only [push_cast] at hc)) | (with_reducible refine guardW_split ?_ ?_ <;> intro hc <;> (try simp only [push_cast] at hc)) | ((with_reducible first | refine eK h1 ?_ | refine eQ h1 ?_ | refine eG h1 ?_)) | ((with_reducible first | refine eK h2 ?_ | refine eQ h2 ?_ | refine eG h2 ?_)) | ((with_reducible first | refine eK h3 ?_ | refine eQ h3 ?_ | refine eG h3 ?_)) | ((with_reducible first | refine cK h1 ?_ | refine cQ h1 ?_ | refine cG h1 ?_); (simp (disch := omega) only [push_cast, ↓zz, seval, hP, hT]); (fail_if_success (with_reducible change False))) | ((with_reducible first | refine cK h2 ?_ | refine cQ h2 ?_ | refine cG h2 ?_); (simp (disch := omega) only [push_cast, ↓zz, seval, hP, hT]); (fail_if_success (with_reducible change False))) | ((with_reducible first | refine cK h3 ?_ | refine cQ h3 ?_ | refine cG h3 ?_); (simp (disch := omega) only [push_cast, ↓zz, seval, hP, hT]); (fail_if_success (with_reducible change False))) | omega | (with_reducible intro _)))
    all_goals simp only [*, decide_true, decide_false, Bool.true_and, Bool.false_and, Bool.and_false]
  | true =>
    rw [hg] at h3
    obtain ⟨g1, g2⟩ := guards_short hg
    have h4 := desc_writes d r.out r.guards ho (fun g hg => by have := g2 g hg; omega) (by omega)
    (repeat' (first | (simp (disch := omega) only [push_cast, ↓zz, seval, hP, hT]) | (with_reducible refine And.intro ?_ ?_) | (with_reducible refine condW_split ?_ ?_ <;> intro hc <;> (try simp only [push_cast] at hc)) | (with_reducible refine guardW_split ?_ ?_ <;> intro hc <;> (try simp only [push_cast] at hc)) | ((with_reducible first | refine eK h1 ?_ | refine eQ h1 ?_ | refine eG h1 ?_)) | ((with_reducible first | refine eK h2 ?_ | refine eQ h2 ?_ | refine eG h2 ?_)) | ((with_reducible first | refine eK h3 ?_ | refine eQ h3 ?_ | refine eG h3 ?_)) | ((with_reducible first | refine eK h4 ?_ | refine eQ h4 ?_ | refine eG h4 ?_)) | ((with_reducible first | refine cK h1 ?_ | refine cQ h1 ?_ | refine cG h1 ?_); (simp (disch := omega) only [push_cast, ↓zz, seval, hP, hT]); (fail_if_success (with_reducible change False))) | ((with_reducible first | refine cK h2 ?_ | refine cQ h2 ?_ | refine cG h2 ?_); (simp (disch := omega) only [push_cast, ↓zz, seval, hP, hT]); (fail_if_success (with_reducible change False))) | ((with_reducible first | refine cK h3 ?_ | refine cQ h3 ?_ | refine cG h3 ?_); (simp (disch := omega) only [push_cast, ↓zz, seval, hP, hT]); (fail_if_success (with_reducible change False))) | ((with_reducible first | refine cK h4 ?_ | refine cQ h4 ?_ | refine cG h4 ?_); (simp (disch := omega) only [push_cast, ↓zz, seval, hP, hT]); (fail_if_success (with_reducible change False))) | omega | (with_reducible intro _)))
    all_goals simp only [*, decide_true, decide_false, Bool.true_and, Bool.false_and, Bool.and_false, Bool.not_true, Bool.not_false, Bool.and_true]
    all_goals trace_state
end Go.Proofs.Yticodgjinajkpaa
set_option linter.unusedSimpArgs false
set_option linter.unusedVariables false
namespace Go.Proofs.Yticodgjinajkpaa
open Abs
abbrev edgeG (v : Nat) (l : List Int) : Grp := ⟨1, v, l.isEmpty, l.map (AV.int .i64)⟩
def famF (n : Nat) (V : Nat → Nat) (D : Nat → List Int) : List Grp := (List.range n).map fun i => edgeG (V i) (D i)
def famT (n : Nat) (V : Nat → Nat) (D : Nat → List Int) : List AV := (List.range n).map fun i => AV.ref (i + 3) (V i) 0 (D i).length
def famI (n : Nat) (f : Nat → Int) : List AV := (List.range n).map fun i => AV.int .i64 (f i)
theorem range_map_set {α : Type} {n i : Nat} {f : Nat → α} {x : α} (h : i < n) : ((List.range n).map f).set i x = (List.range n).map fun j => if j = i then x else f j := by
  refine List.ext_getElem (by simp) fun j h1 h2 => ?_
  simp only [List.length_set, List.length_map, List.length_range] at h1
  simp only [List.getElem_set, List.getElem_map, List.getElem_range]
  by_cases e : i = j
  · rw [if_pos e, if_pos e.symm]
  · rw [if_neg e, if_neg fun h => e h.symm]
theorem range_map_at {α : Type} {n i : Nat} {f : Nat → α} {z : α} (h : i < n) : ((List.range n).map f).getD i z = f i := by simp [List.getD, h]
theorem sameBut_set {ks : List Nat} {G : Grp} : ∀ {l : List Grp} {p i : Nat}, p + i ∈ ks → SameBut p ks l (l.set i G)
  | [], p, i, h => trivial
  | a :: l, p, 0, h => ⟨.inl h, sameBut_refl⟩
  | a :: l, p, i + 1, h => ⟨.inr rfl, sameBut_set (by rwa [show p + 1 + i = p + (i + 1) by omega])⟩
where sameBut_refl {ks : List Nat} : ∀ {l : List Grp} {p : Nat}, SameBut p ks l l
  | [], p => trivial
  | a :: l, p => ⟨.inr rfl, sameBut_refl⟩
theorem setQ_end : ∀ (l : List Grp) (G G' : Grp), setQ (l ++ [G]) l.length G' = some (l ++ [G'])
  | [], _, _ => rfl
  | a :: l, G, G' => by rw [List.cons_append, List.length_cons, setQ, setQ_end l G G']; rfl
theorem setQ_mid : ∀ (l : List Grp) (G G' : Grp) {i : Nat}, i < l.length → setQ (l ++ [G]) i G' = some (l.set i G' ++ [G])
  | [], _, _, i, h => by simp at h
  | a :: l, G, G', 0, h => rfl
  | a :: l, G, G', i + 1, h => by rw [List.cons_append, setQ, setQ_mid l G G' (by simpa using h)]; rfl
def setV (V : Nat → Nat) (i v : Nat) (j : Nat) : Nat := if j = i then v else V j
structure CycOk (d : Desc) : Prop where
  st : 1 ≤ d.states ∧ d.states ≤ 1024
  len : d.rules.length ≤ 4096
  rul : ∀ r ∈ d.rules, (0 ≤ r.from_ ∧ r.from_ < d.states) ∧ 0 ≤ r.to_ ∧ r.to_ < d.states
def cycEnv (d : Desc) (k : Nat) : Env := mkEnv [(1, .ptr 0 1 0 0), (3, .ref 1 1 0 d.states.toNat), (4, .ref 2 1 0 d.states.toNat), (21, rulesV d.rules), (22, .int .i64 d.rules.length), (23, .int .i64 k)]
def cycHeap (d : Desc) (k : Nat) (V : Nat → Nat) : AHeap := Abs.hl (⟨6, 1, true, [descV d]⟩ :: ⟨1, 1, true, famT d.states.toNat V (toD (d.rules.take k))⟩ :: ⟨1, 1, true, famI d.states.toNat (inD (d.rules.take k))⟩ :: famF d.states.toNat V (toD (d.rules.take k)))
def cycL (d : Desc) (k : Nat) (V : Nat → Nat) : List Grp := ⟨6, 1, true, [descV d]⟩ :: ⟨1, 1, true, famT d.states.toNat V (toD (d.rules.take k))⟩ :: ⟨1, 1, true, famI d.states.toNat (inD (d.rules.take k))⟩ :: famF d.states.toNat V (toD (d.rules.take k))
theorem cycHeap_eq (d : Desc) (k : Nat) (V : Nat → Nat) : cycHeap d k V = Abs.hl (cycL d k V) := rfl
theorem cycL_len (d : Desc) (k : Nat) (V : Nat → Nat) : (cycL d k V).length = d.states.toNat + 3 := by simp [cycL, famF]
theorem pure_descs (d : Desc) : (descV d).pure = true := by simp [descV, AV.pure, pureL, pure_rules, pure_finals]
theorem cycL_closed (d : Desc) (k : Nat) (V : Nat → Nat) : ∀ G ∈ cycL d k V, ltL (cycL d k V).length G.xs := fun G hG => by
  rw [cycL_len]
  simp only [cycL, List.mem_cons] at hG
  rcases hG with rfl | rfl | rfl | hG
  · exact ltL_pure _ _ (by simp [pureL, pure_descs])
  · have key : ∀ (l : List Nat), (∀ i ∈ l, i < d.states.toNat) → ltL (d.states.toNat + 3) (l.map fun i => AV.ref (i + 3) (V i) 0 (toD (d.rules.take k) i).length) := fun l => by
      induction l with
      | nil => exact fun _ => trivial
      | cons i l ih =>
        intro h
        exact ⟨by have := h i (by simp); show i + 3 < _; omega, ih fun j hj => h j (by simp [hj])⟩
    exact key _ fun i hi => by simpa using hi
  · exact ltL_pure _ _ (pureL_mem.2 fun x hx => by
      obtain ⟨i, _, rfl⟩ := List.mem_map.1 hx
      rfl)
  · obtain ⟨i, _, rfl⟩ := List.mem_map.1 hG
    exact ltL_pure _ _ (pure_int .i64 _)
theorem cyc_end {d : Desc} {k : Nat} {V : Nat → Nat} {env : Env} {l gar : List Grp} (hn : 1 ≤ d.states) (hl' : l = cycL d k V ++ gar)
    (h1 : env 1 = .ptr 0 1 0 0) (h3 : env 3 = .ref 1 1 0 d.states.toNat) (h4 : env 4 = .ref 2 1 0 d.states.toNat) (h21 : env 21 = rulesV d.rules) (h22 : env 22 = .int .i64 d.rules.length) (h23 : env 23 = .int .i64 k) :
    Ent 105 0 env (Abs.hl l) (cycEnv d k) (cycHeap d k V) := by
  rw [hl', cycHeap_eq]
  refine (Ent_live [(1, .ptr 0 1 0 0), (3, .ref 1 1 0 d.states.toNat), (4, .ref 2 1 0 d.states.toNat), (21, rulesV d.rules), (22, .int .i64 d.rules.length), (23, .int .i64 k)] (fun p hp => ?_)).trans (Ent_cut (by omega) (cycL_closed d k V) fun i _ => ?_)
  · simp only [List.mem_cons, List.not_mem_nil, or_false] at hp
    rcases hp with rfl | rfl | rfl | rfl | rfl | rfl <;> assumption
  · rw [cycL_len]
    have hr : ltV (d.states.toNat + 3) (rulesV d.rules) := lt_pure _ _ (by simp [rulesV, AV.pure, pure_rules])
    simp only [mkEnv]
    repeat' split
    all_goals first
      | exact hr
      | trivial
      | (show _ < _; omega)
theorem famT_set {n i : Nat} {V : Nat → Nat} {D : Nat → List Int} {x : Int} (h : i < n) : (famT n V D).set i (.ref (i + 3) (V i + 1) 0 ((D i).length + 1)) = famT n (setV V i (V i + 1)) fun p => if p = i then D i ++ [x] else D p := by
  rw [famT, range_map_set h, famT]
  refine List.map_congr_left fun j _ => ?_
  by_cases e : j = i
  · subst e; simp [setV]
  · simp [setV, e]
theorem famF_set {n i : Nat} {V : Nat → Nat} {D : Nat → List Int} {x : Int} (h : i < n) : (famF n V D).set i ⟨1, V i + 1, false, (D i).map (AV.int .i64) ++ [.int .i64 x]⟩ = famF n (setV V i (V i + 1)) fun p => if p = i then D i ++ [x] else D p := by
  rw [famF, range_map_set h, famF]
  refine List.map_congr_left fun j _ => ?_
  by_cases e : j = i
  · subst e; simp [setV, edgeG]
  · simp [setV, e]
theorem famI_set {n j : Nat} {f : Nat → Int} {x : Int} (h : j < n) : (famI n f).set j (.int .i64 x) = famI n fun p => if p = j then x else f p := by
  rw [famI, range_map_set h, famI]
  refine List.map_congr_left fun p _ => ?_
  by_cases e : p = j
  · subst e; simp
  · simp [e]
theorem toD_step {l : List Rule} {k i : Nat} (hk : k < l.length) (hi : (nth l k).from_ = i) (he : isEps (nth l k) = true) : toD (l.take (k + 1)) = fun p => if p = i then toD (l.take k) i ++ [(nth l k).to_] else toD (l.take k) p := by
  funext p
  rw [take_at hk]
  simp only [toD, List.filter_append, List.map_append, List.filter_cons, List.filter_nil, he, Bool.true_and, hi, decide_eq_true_eq]
  by_cases e : p = i
  · subst e; simp
  · rw [if_neg (by omega), if_neg e]; simp
theorem inD_step {l : List Rule} {k j : Nat} (hk : k < l.length) (hj : (nth l k).to_ = j) (he : isEps (nth l k) = true) : inD (l.take (k + 1)) = fun p => if p = j then inD (l.take k) j + 1 else inD (l.take k) p := by
  funext p
  rw [take_at hk]
  simp only [inD, List.filter_append, List.length_append, List.filter_cons, List.filter_nil, he, Bool.true_and, hj, decide_eq_true_eq]
  by_cases e : p = j
  · subst e; simp
  · rw [if_neg (by omega), if_neg e]; simp
theorem toD_skip {l : List Rule} {k : Nat} (hk : k < l.length) (he : isEps (nth l k) = false) : toD (l.take (k + 1)) = toD (l.take k) ∧ inD (l.take (k + 1)) = inD (l.take k) := by
  rw [take_at hk]
  refine ⟨?_, ?_⟩ <;> funext p <;> simp [toD, inD, he]
theorem inD_bd (l : List Rule) (j : Nat) : 0 ≤ inD l j ∧ inD l j ≤ l.length := by
  have := List.length_filter_le (fun r => isEps r && decide (r.to_ = j)) l
  simp only [inD]; omega
theorem toD_bd (l : List Rule) (j : Nat) : (toD l j).length ≤ l.length := by
  have := List.length_filter_le (fun r => isEps r && decide (r.from_ = j)) l
  simp only [toD, List.length_map]; omega
theorem grpsLe_refl (l0 : List Grp) : ∀ l : List Grp, grpsLe l0 l l
  | [] => trivial
  | G :: l => ⟨⟨rfl, rfl, id, leSL_refl _ _⟩, grpsLe_refl l0 l⟩
theorem famF_nil (n : Nat) : famF n (fun _ => 1) (toD []) = (List.replicate n 1).map virtG := by
  rw [List.map_replicate]
  refine List.ext_getElem (by simp [famF]) fun i h1 h2 => ?_
  simp only [famF, List.getElem_map, List.getElem_range, List.getElem_replicate]
  rfl
theorem famI_nil (n : Nat) : famI n (inD []) = List.replicate n (.int .i64 0) := by
  refine List.ext_getElem (by simp [famI]) fun i h1 h2 => ?_
  simp [famI, inD]
theorem famT_virt {l : List Grp} {n : Nat} (h : ∀ i, i < n → l.getD (i + 3) default = virtG 1 ∧ i + 3 < l.length) : leSL l (List.replicate n .nilS) (famT n (fun _ => 1) (toD [])) := by
  have key : ∀ idx : List Nat, (∀ i ∈ idx, i < n) → leSL l (List.replicate idx.length .nilS) (idx.map fun i => AV.ref (i + 3) 1 0 (toD [] i).length) := fun idx => by
    induction idx with
    | nil => exact fun _ => rfl
    | cons i idx ih =>
      intro hi
      obtain ⟨h1, h2⟩ := h i (hi i (by simp))
      refine ⟨?_, ih fun j hj => hi j (by simp [hj])⟩
      show 0 = 0 ∧ (toD [] i).length = 0 ∧ (l.getD (i + 3) default).ver = 1 ∧ 0 < (l.getD (i + 3) default).w ∧ (l.getD (i + 3) default).xs = [] ∧ (l.getD (i + 3) default).exact = true ∧ i + 3 < l.length
      rw [h1]
      exact ⟨rfl, rfl, rfl, by decide, rfl, rfl, h2⟩
  have := key (List.range n) fun i hi => by simpa using hi
  rwa [List.length_range] at this
theorem cyc_start {d : Desc} {env : Env} (h1 : env 1 = .ptr 0 1 0 0) (h3 : env 3 = .ref 1 1 0 d.states.toNat) (h4 : env 4 = .ref 2 1 0 d.states.toNat) (h21 : env 21 = rulesV d.rules) (h22 : env 22 = .int .i64 d.rules.length) (h23 : env 23 = .int .i64 0) :
    Ent 105 0 env (Abs.hl [⟨6, 1, true, [descV d]⟩, ⟨1, 1, true, List.replicate d.states.toNat .nilS⟩, ⟨1, 1, true, List.replicate d.states.toNat (.int .i64 0)⟩]) (cycEnv d 0) (cycHeap d 0 fun _ => 1) := by
  refine (Ent_live [(1, .ptr 0 1 0 0), (3, .ref 1 1 0 d.states.toNat), (4, .ref 2 1 0 d.states.toNat), (21, rulesV d.rules), (22, .int .i64 d.rules.length), (23, .int .i64 0)] (fun p hp => ?_)).trans
    ((Ent_virt (List.replicate d.states.toNat 1) (fun w hw => by have := (List.mem_replicate.1 hw).2; omega)).trans (Ent_le ?_ fun i _ => leS_refl _ _))
  · simp only [List.mem_cons, List.not_mem_nil, or_false] at hp
    rcases hp with rfl | rfl | rfl | rfl | rfl | rfl <;> assumption
  · rw [List.take_zero, famF_nil, famI_nil]
    refine ⟨⟨rfl, rfl, id, leSL_refl _ _⟩, ⟨rfl, rfl, id, famT_virt fun i hi => ?_⟩, ⟨rfl, rfl, id, leSL_refl _ _⟩, grpsLe_refl _ _⟩
    refine ⟨?_, by simp; omega⟩
    rw [List.map_replicate]
    simp [List.getD, hi]
def dataD (n : Nat) (D : Nat → List Int) : AV := .lst 1 ((List.range n).map fun i => intsV (D i))
theorem Ent_congr {n b : Nat} {env : Env} {H H' : AHeap} (hn : H'.n = H.n) (h : ∀ g, g < H.n → H'.at_ g = H.at_ g) : Ent n b env H env H' := fun S val hb hS hv => ⟨S, rfl, .refl hb, hS.congr hn h, hv⟩
def cycKs (n : Nat) : List Nat := 1 :: (List.range n).map (· + 3)
theorem mem_cycKs {n i : Nat} (h : i < n) : i + 3 ∈ cycKs n := List.mem_cons.2 (.inr (List.mem_map.2 ⟨i, List.mem_range.2 h, rfl⟩))
theorem cyc_at (d : Desc) (k : Nat) (V : Nat → Nat) {i : Nat} (hi : i < d.states.toNat) : (cycHeap d k V).at_ (i + 3) = edgeG (V i) (toD (d.rules.take k) i) := by
  rw [cycHeap, hl_at]
  simp only [List.getD_cons_succ]
  exact range_map_at hi
theorem cyc_frz (d : Desc) (k : Nat) (V : Nat → Nat) : frzOk 2 ((cycHeap d k V).only (cycKs d.states.toNat)) (.ref 1 1 0 d.states.toNat) ∧ frzV 2 ((cycHeap d k V).only (cycKs d.states.toNat)) (.ref 1 1 0 d.states.toNat) = dataD d.states.toNat (toD (d.rules.take k)) := by
  have hat1 : ((cycHeap d k V).only (cycKs d.states.toNat)).at_ 1 = ⟨1, 1, true, famT d.states.toNat V (toD (d.rules.take k))⟩ := by
    show (if 1 ∈ cycKs d.states.toNat then (cycHeap d k V).at_ 1 else ((cycHeap d k V).at_ 1).dead) = _
    rw [if_pos (by simp [cycKs])]
    rfl
  have hat : ∀ i, i < d.states.toNat → ((cycHeap d k V).only (cycKs d.states.toNat)).at_ (i + 3) = edgeG (V i) (toD (d.rules.take k) i) := fun i hi => by
    show (if i + 3 ∈ cycKs d.states.toNat then (cycHeap d k V).at_ (i + 3) else ((cycHeap d k V).at_ (i + 3)).dead) = _
    rw [if_pos (mem_cycKs hi)]
    exact cyc_at d k V hi
  have htl : (((famT d.states.toNat V (toD (d.rules.take k))).drop 0).take d.states.toNat) = famT d.states.toNat V (toD (d.rules.take k)) := by
    rw [List.drop_zero]; exact List.take_of_length_le (by simp [famT])
  constructor
  · refine ⟨by rw [hat1], by rw [hat1]; exact Nat.one_pos, by rw [hat1]; simp [famT], fun y hy => ?_⟩
    rw [hat1, htl] at hy
    obtain ⟨i, hi, rfl⟩ := List.mem_map.1 hy
    have hi' : i < d.states.toNat := by simpa using hi
    refine ⟨by rw [hat i hi'], by rw [hat i hi']; exact Nat.one_pos, by rw [hat i hi']; simp, fun z hz => ?_⟩
    rw [hat i hi'] at hz
    obtain ⟨u, _, rfl⟩ := List.mem_map.1 (List.mem_of_mem_drop (List.mem_of_mem_take hz))
    rfl
  · show AV.lst _ _ = _
    rw [hat1, htl, dataD, famT, List.map_map]
    congr 1
    refine List.map_congr_left fun i hi => ?_
    have hi' : i < d.states.toNat := by simpa using hi
    show AV.lst _ _ = _
    rw [hat i hi']
    have e : (((edgeG (V i) (toD (d.rules.take k) i)).xs.drop 0).take (toD (d.rules.take k) i).length).map (frzV 0 ((cycHeap d k V).only (cycKs d.states.toNat))) = (toD (d.rules.take k) i).map (AV.int .i64) := by
      rw [List.drop_zero, List.take_of_length_le (by simp [edgeG])]
      refine (List.map_congr_left fun x hx => ?_).trans (List.map_id _)
      obtain ⟨u, _, rfl⟩ := List.mem_map.1 hx
      rfl
    rw [e]
def cycLive2 (d : Desc) (k : Nat) : List (Nat × AV) := [(1, .ptr 0 1 0 0), (3, dataD d.states.toNat (toD (d.rules.take k))), (4, .ref 2 1 0 d.states.toNat), (7, .nilS), (52, .ref 2 1 0 d.states.toNat), (53, .int .i64 d.states.toNat), (54, .int .i64 0)]
theorem cyc_freeze {d : Desc} {k : Nat} {V : Nat → Nat} {env : Env} (h1 : env 1 = .ptr 0 1 0 0) (h3 : env 3 = .ref 1 1 0 d.states.toNat) (h4 : env 4 = .ref 2 1 0 d.states.toNat) (h7 : env 7 = .nilS) (h52 : env 52 = .ref 2 1 0 d.states.toNat) (h53 : env 53 = .int .i64 d.states.toNat) (h54 : env 54 = .int .i64 0) :
    Ent 105 0 env (cycHeap d k V) (mkEnv (cycLive2 d k)) (Abs.hl [⟨6, 1, true, [descV d]⟩, ⟨0, 2, false, []⟩, ⟨1, 1, true, famI d.states.toNat (inD (d.rules.take k))⟩]) := by
  obtain ⟨f1, f2⟩ := cyc_frz d k V
  rw [← h3] at f1 f2
  refine (Ent_frz 3 2 (cycKs d.states.toNat) f1).trans ((Ent_live (cycLive2 d k) fun p hp => ?_).trans ((Ent_congr (H' := Abs.hl ([⟨6, 1, true, [descV d]⟩, ⟨0, 2, false, []⟩, ⟨1, 1, true, famI d.states.toNat (inD (d.rules.take k))⟩] ++ (famF d.states.toNat V (toD (d.rules.take k))).map Grp.dead)) ?_ ?_).trans (Ent_cut (by omega) ?_ ?_)))
  · rw [f2]
    simp only [cycLive2, List.mem_cons, List.not_mem_nil, or_false] at hp
    rcases hp with rfl | rfl | rfl | rfl | rfl | rfl | rfl <;> first | rfl | assumption
  · simp [cycHeap, AHeap.kill, Abs.hl]
  · intro g hg
    show _ = if g ∈ cycKs d.states.toNat then ((cycHeap d k V).at_ g).dead else (cycHeap d k V).at_ g
    have hlen : (cycHeap d k V).n = d.states.toNat + 3 := cycL_len d k V
    have hg' : g < d.states.toNat + 3 := by rw [← hlen]; exact hg
    match g, hg' with
    | 0, _ => rw [if_neg (by simp [cycKs])]; rfl
    | 1, _ => rw [if_pos (by simp [cycKs])]; rfl
    | 2, _ => rw [if_neg (by simp [cycKs])]; rfl
    | i + 3, hi =>
      have hi' : i < d.states.toNat := by omega
      rw [if_pos (mem_cycKs hi'), cyc_at d k V hi', hl_at]
      simp only [List.cons_append, List.nil_append, List.getD_cons_succ, famF, List.map_map]
      exact range_map_at hi'
  · intro G hG
    simp only [List.mem_cons, List.not_mem_nil, or_false] at hG
    rcases hG with rfl | rfl | rfl
    · exact ltL_pure _ _ (by simp [pureL, pure_descs])
    · trivial
    · exact ltL_pure _ _ (pureL_mem.2 fun x hx => by
        obtain ⟨i, _, rfl⟩ := List.mem_map.1 hx
        rfl)
  · intro i _
    have hd : ltV 3 (dataD d.states.toNat (toD (d.rules.take k))) := trivial
    simp only [mkEnv, cycLive2]
    repeat' split
    all_goals first
      | exact hd
      | trivial
      | (show _ < _; simp)
theorem desc_cycle (d : Desc) (hd : CycOk d) : PC Try.prog 34 [descV d] (.bool (@decide (cycP d.rules d.states.toNat) (Classical.propDecidable _))) := by
  obtain ⟨⟨hn1, hn2⟩, hlen, hrul⟩ := hd
  have hP := pure_rules d.rules
  refine pc_w' c_desc_cycle ?_
  unfold B_desc_cycle
  (repeat' (first | (simp (disch := omega) only [push_cast, ↓zz, seval]) | (with_reducible refine And.intro ?_ ?_) | (with_reducible refine condW_split ?_ ?_ <;> intro hc <;> (try simp only [push_cast] at hc)) | (with_reducible refine guardW_split ?_ ?_ <;> intro hc <;> (try simp only [push_cast] at hc)) | omega | (with_reducible intro _)))
  refine LoopK_T (T_loopE (fun (s : Nat × (Nat → Nat)) => s.1 ≤ d.rules.length) (fun s => d.rules.length - s.1) (fun s => cycEnv d s.1) (fun s => cycHeap d s.1 s.2) (0, fun _ => 1) (by simp) ?_ ?_)
  · exact cyc_start rfl rfl rfl rfl rfl rfl
  rintro ⟨k, V⟩ hk
  simp only at hk ⊢
  rcases Nat.lt_or_ge k d.rules.length with hkl | hkl
  · have hr := hrul _ (nth_mem hkl)
    generalize hre : nth d.rules k = r at *
    have hgr := pure_guards r.guards
    have hot := pure_terms r.out
    obtain ⟨n, hn⟩ : ∃ n : Nat, d.states = n := ⟨d.states.toNat, by omega⟩
    obtain ⟨i, hi⟩ : ∃ i : Nat, r.from_ = i := ⟨r.from_.toNat, by omega⟩
    obtain ⟨j, hj⟩ : ∃ j : Nat, r.to_ = j := ⟨r.to_.toNat, by omega⟩
    have hin : i < n := by omega
    have hjn : j < n := by omega
    have hni : ¬ n = i := by omega
    have ee : cycEnv d k = mkEnv [(1, .ptr 0 1 0 0), (3, .ref 1 1 0 n), (4, .ref 2 1 0 n), (21, rulesV d.rules), (22, .int .i64 d.rules.length), (23, .int .i64 k)] := by simp only [cycEnv, hn, Int.toNat_natCast]
    have eh : cycHeap d k V = Abs.hl (⟨6, 1, true, [descV d]⟩ :: ⟨1, 1, true, famT n V (toD (d.rules.take k))⟩ :: ⟨1, 1, true, famI n (inD (d.rules.take k))⟩ :: famF n V (toD (d.rules.take k))) := by simp only [cycHeap, hn, Int.toNat_natCast]
    rw [ee, eh]
    clear ee eh
    have hFl : (famF n V (toD (d.rules.take k))).length = n := by simp [famF]
    have hTl : (famT n V (toD (d.rules.take k))).length = n := by simp [famT]
    have hIl : (famI n (inD (d.rules.take k))).length = n := by simp [famI]
    have gI : ∀ G, (famF n V (toD (d.rules.take k)) ++ [G]).getD i default = edgeG (V i) (toD (d.rules.take k) i) := fun G => by
      rw [List.getD_eq_getElem?_getD, List.getElem?_append_left (by omega), ← List.getD_eq_getElem?_getD]
      exact range_map_at hin
    have gR : ∀ G, (famF n V (toD (d.rules.take k)) ++ [G]).getD n default = G := fun G => by
      rw [List.getD_eq_getElem?_getD, List.getElem?_append_right (by omega)]
      simp [hFl]
    have tI : (famT n V (toD (d.rules.take k))).getD i .any = .ref (i + 3) (V i) 0 (toD (d.rules.take k) i).length := range_map_at hin
    have iJ : (famI n (inD (d.rules.take k))).getD j .any = .int .i64 (inD (d.rules.take k) j) := range_map_at hjn
    have sR : ∀ G G', setQ (famF n V (toD (d.rules.take k)) ++ [G]) n G' = some (famF n V (toD (d.rules.take k)) ++ [G']) := fun G G' => by
      have := setQ_end (famF n V (toD (d.rules.take k))) G G'
      rwa [hFl] at this
    have sI : ∀ G G', setQ (famF n V (toD (d.rules.take k)) ++ [G]) i G' = some ((famF n V (toD (d.rules.take k))).set i G' ++ [G]) := fun G G' => setQ_mid _ _ _ (by omega)
    have gR2 : ∀ G G', ((famF n V (toD (d.rules.take k))).set i G' ++ [G]).getD n default = G := fun G G' => by
      rw [List.getD_eq_getElem?_getD, List.getElem?_append_right (by simp [hFl])]
      simp [hFl]
    have hSB : ∀ R G, SameBut 3 [i + 3] (famF n V (toD (d.rules.take k)) ++ [R]) ((famF n V (toD (d.rules.take k))).set i G ++ [R]) := fun R G => by
      rw [← List.set_append_left _ _ (by omega)]
      exact sameBut_set (by simp; omega)
    generalize hF : famF n V (toD (d.rules.take k)) = F at *
    generalize hT : famT n V (toD (d.rules.take k)) = TT at *
    generalize hI : famI n (inD (d.rules.take k)) = II at *
    generalize hD : toD (d.rules.take k) i = Di at *
    generalize hJ : inD (d.rules.take k) j = Ij at *
    refine W_T ?_
    have hEx : (!Di.isEmpty || (Di.map (AV.int .i64)).isEmpty) = true := by cases Di <;> rfl
    have hDl : Di.length ≤ 4096 := by rw [← hD]; have := toD_bd (d.rules.take k) i; simp at this; omega
    have hJb : 0 ≤ Ij ∧ Ij ≤ 4096 := by rw [← hJ]; have := inD_bd (d.rules.take k) j; simp at this; omega
    (repeat' (first | (simp (disch := omega) only [push_cast, ↓zz, seval, hP, hre, hi, hj, hFl, hTl, hIl, gI, gR, gR2, sR, sI, tI, iJ, List.cons_append, List.length_append, List.length_cons]) | (with_reducible refine And.intro ?_ ?_) | (with_reducible refine condW_split ?_ ?_ <;> intro hc <;> (try simp only [push_cast] at hc)) | (with_reducible refine guardW_split ?_ ?_ <;> intro hc <;> (try simp only [push_cast] at hc)) | omega | (with_reducible intro _)))
    · refine LoopK_X [i + 3] ?_
      (repeat' (first | (simp (disch := omega) only [push_cast, ↓zz, seval, xx, List.mem_cons, List.not_mem_nil, or_false, false_or, not_or, not_false_eq_true, true_or, or_true, hP, hre, hi, hj, hFl, hTl, hIl, gI, gR, gR2, sR, sI, tI, iJ, List.cons_append, List.length_append, List.length_cons, hni, hEx]) | (with_reducible refine And.intro ?_ ?_) | (with_reducible refine condW_split ?_ ?_ <;> intro hc <;> (try simp only [push_cast] at hc)) | (with_reducible refine guardW_split ?_ ?_ <;> intro hc <;> (try simp only [push_cast] at hc)) | omega | (with_reducible intro _)))
      · exact hSB _ _
      have he : isEps (nth d.rules k) = true := by rw [hre, isEps]; simpa using ‹(r.guards.length : Int) = 0›
      have e1 := toD_step (i := i) hkl (by rw [hre]; exact hi) he
      have e2 := inD_step (j := j) hkl (by rw [hre]; exact hj) he
      refine ⟨(k + 1, setV V i (V i + 1)), cyc_end (gar := [⟨5, 1, true, [.agg [.int .i64 i, .int .i64 j, guardsV r.guards, .int .i64 r.eat, termsV r.out]]⟩]) hn1 ?_ ?_ ?_ ?_ ?_ ?_ ?_, by simp only; omega, by simp only; omega⟩
      · rw [cycL, e1, e2, hn, Int.toNat_natCast, ← hF, ← hT, ← hI, ← hD, ← hJ, hre, hj, famT_set hin, famI_set hjn, famF_set hin]
        rfl
      all_goals first | rfl | (rw [hn]; rfl)
    · have he : isEps (nth d.rules k) = false := by rw [hre, isEps]; simpa using ‹¬ (r.guards.length : Int) = 0›
      obtain ⟨e1, e2⟩ := toD_skip hkl he
      refine ⟨(k + 1, V), cyc_end (gar := [⟨5, 1, true, [.agg [.int .i64 i, .int .i64 j, guardsV r.guards, .int .i64 r.eat, termsV r.out]]⟩]) hn1 ?_ ?_ ?_ ?_ ?_ ?_ ?_, by simp only; omega, by simp only; omega⟩
      · rw [cycL, e1, e2, hn, Int.toNat_natCast, hF, hT, hI]
        rfl
      all_goals first | rfl | (rw [hn]; rfl)
  · obtain rfl : k = d.rules.length := by omega
    obtain ⟨n, hn⟩ : ∃ n : Nat, d.states = n := ⟨d.states.toNat, by omega⟩
    have ee : cycEnv d d.rules.length = mkEnv [(1, .ptr 0 1 0 0), (3, .ref 1 1 0 n), (4, .ref 2 1 0 n), (21, rulesV d.rules), (22, .int .i64 d.rules.length), (23, .int .i64 d.rules.length)] := by simp only [cycEnv, hn, Int.toNat_natCast]
    refine W_T ?_
    rw [ee, cycHeap_eq]
    (repeat' (first | (simp (disch := omega) only [push_cast, ↓zz, seval, hP]) | (with_reducible refine And.intro ?_ ?_) | (with_reducible refine condW_split ?_ ?_ <;> intro hc <;> (try simp only [push_cast] at hc)) | (with_reducible refine guardW_split ?_ ?_ <;> intro hc <;> (try simp only [push_cast] at hc)) | omega | (with_reducible intro _)))
    refine LoopK_E (cyc_freeze rfl (by rw [hn]; rfl) (by rw [hn]; rfl) rfl (by rw [hn]; rfl) (by rw [hn]; rfl) rfl) ?_
    have el : cycLive2 d d.rules.length = [(1, .ptr 0 1 0 0), (3, .lst 1 ((List.range n).map fun i => intsV (toD d.rules i))), (4, .ref 2 1 0 n), (7, .nilS), (52, .ref 2 1 0 n), (53, .int .i64 n), (54, .int .i64 0)] := by
      simp only [cycLive2, hn, Int.toNat_natCast, List.take_length, dataD]
    rw [el, hn, Int.toNat_natCast, List.take_length]
    clear el ee
    have pL : pureL ((List.range n).map fun i => intsV (toD d.rules i)) = true := pureL_mem.2 fun x hx => by
      obtain ⟨i, _, rfl⟩ := List.mem_map.1 hx
      exact pure_int .i64 _
    have lL : ((List.range n).map fun i => intsV (toD d.rules i)).length = n := by simp
    have aL : ∀ i, i < n → ((List.range n).map fun i => intsV (toD d.rules i)).getD i .any = intsV (toD d.rules i) := fun i hi => range_map_at hi
    have aL2 : ∀ i, i < n → ((List.range n).map fun i => intsV (toD d.rules i))[i]? = some (intsV (toD d.rules i)) := fun i hi => by simp [hi]
    generalize hLe : (List.range n).map (fun i => intsV (toD d.rules i)) = L at *
    have pI : ∀ f, pureL (famI n f) = true := fun f => pureL_mem.2 fun x hx => by
      obtain ⟨i, _, rfl⟩ := List.mem_map.1 hx
      rfl
    have lI : ∀ f, (famI n f).length = n := fun f => by simp [famI]
    have aI : ∀ f i, i < n → (famI n f).getD i .any = .int .i64 (f i) := fun f i hi => range_map_at hi
    have hnn : (n : Int) ≤ 1024 := by omega
    refine LoopK_T (T_loopR (fun (k : Nat) => k ≤ n) (fun k => n - k)
      (fun k => [(1, .ptr 0 1 0 0), (3, .lst 1 L), (4, .ref 1 1 0 n), (7, .ref 2 1 0 (zeroL (inD d.rules) k).length), (52, .ref 1 1 0 n), (53, .int .i64 n), (54, .int .i64 k)]) (fun k => [⟨6, 1, true, [descV d]⟩, ⟨1, 1, true, famI n (inD d.rules)⟩, ⟨1, 1, false, (zeroL (inD d.rules) k).map (AV.int .i64)⟩]) (fun env _ => [srcOf 1 (env 1), srcOf 1 (env 4), srcOf 1 (env 7)]) 0 (by simp) ?_ ?_)
    · have z0 : zeroL (inD d.rules) 0 = [] := rfl
      (repeat' (first | (simp (disch := omega) only [push_cast, ↓zz, seval, pL, lL, pI, lI, z0]) | (with_reducible refine And.intro ?_ ?_) | (with_reducible refine condW_split ?_ ?_ <;> intro hc <;> (try simp only [push_cast] at hc)) | (with_reducible refine guardW_split ?_ ?_ <;> intro hc <;> (try simp only [push_cast] at hc)) | omega | (with_reducible intro _)))
    intro k hk
    have zl := zeroL_len (inD d.rules) k
    rcases Nat.lt_or_ge k n with hkn | hkn
    · have aK := aI (inD d.rules) k hkn
      have zs := zeroL_succ (inD d.rules) k
      have hib := inD_bd d.rules k
      generalize inD d.rules k = v at *
      refine W_T ?_
      (repeat' (first | (simp (disch := omega) only [push_cast, ↓zz, seval, pL, lL, pI, lI, aK]) | (with_reducible refine And.intro ?_ ?_) | (with_reducible refine condW_split ?_ ?_ <;> intro hc <;> (try simp only [push_cast] at hc)) | (with_reducible refine guardW_split ?_ ?_ <;> intro hc <;> (try simp only [push_cast] at hc)) | omega | (with_reducible intro _)))
      · rw [if_pos (by assumption)] at zs
        refine ⟨k + 1, ?_⟩
        (repeat' (first | (simp (disch := omega) only [push_cast, ↓zz, seval, zs]) | (with_reducible refine And.intro ?_ ?_) | (with_reducible refine condW_split ?_ ?_ <;> intro hc <;> (try simp only [push_cast] at hc)) | (with_reducible refine guardW_split ?_ ?_ <;> intro hc <;> (try simp only [push_cast] at hc)) | omega | (with_reducible intro _)))
      · rw [if_neg (by assumption)] at zs
        refine ⟨k + 1, ?_⟩
        (repeat' (first | (simp (disch := omega) only [push_cast, ↓zz, seval, zs]) | (with_reducible refine And.intro ?_ ?_) | (with_reducible refine condW_split ?_ ?_ <;> intro hc <;> (try simp only [push_cast] at hc)) | (with_reducible refine guardW_split ?_ ?_ <;> intro hc <;> (try simp only [push_cast] at hc)) | omega | (with_reducible intro _)))
    · have hkn2 : n = k := by omega
      subst hkn2
      refine W_T ?_
      (repeat' (first | (simp (disch := omega) only [push_cast, ↓zz, seval, pL, lL, pI, lI]) | (with_reducible refine And.intro ?_ ?_) | (with_reducible refine condW_split ?_ ?_ <;> intro hc <;> (try simp only [push_cast] at hc)) | (with_reducible refine guardW_split ?_ ?_ <;> intro hc <;> (try simp only [push_cast] at hc)) | omega | (with_reducible intro _)))
      have hto : ∀ s m, m < (toD d.rules s).length → 0 ≤ nth (toD d.rules s) m ∧ nth (toD d.rules s) m < n := fun s m hm => by
        have hm2 : nth (toD d.rules s) m ∈ toD d.rules s := nth_mem hm
        generalize nth (toD d.rules s) m = x at *
        obtain ⟨r, hr, rfl⟩ := List.mem_map.1 hm2
        have := hrul r (List.mem_filter.1 hr).1
        omega
      refine LoopK_T (T_loopR (fun (s : List Int × List Int × List Int) => KInv d.rules n (s.1 ++ s.2.1) (cntE d.rules s.1)) (fun s => n - s.1.length)
        (fun s => [(1, .ptr 0 1 0 0), (3, .lst 1 L), (4, .ref 1 1 0 n), (7, .ref 2 1 s.2.2.length s.2.1.length), (10, .int .i64 s.1.length)]) (fun s => [⟨6, 1, true, [descV d]⟩, ⟨1, 1, true, famI n (cntE d.rules s.1)⟩, ⟨1, 1, false, (s.2.2 ++ s.2.1).map (AV.int .i64)⟩]) (fun env _ => [srcOf 1 (env 1), srcOf 1 (env 4), srcOf 1 (env 7)]) ([], zeroL (inD d.rules) n, []) (kinv_start d.rules n) ?_ ?_)
      · have e0 : cntE d.rules [] = inD d.rules := funext fun j => cntE_nil _ _
        (repeat' (first | (simp (disch := omega) only [push_cast, ↓zz, seval, pL, lL, pI, lI, e0]) | (with_reducible refine And.intro ?_ ?_) | (with_reducible refine condW_split ?_ ?_ <;> intro hc <;> (try simp only [push_cast] at hc)) | (with_reducible refine guardW_split ?_ ?_ <;> intro hc <;> (try simp only [push_cast] at hc)) | omega | (with_reducible intro _)))
      rintro ⟨P, td, junk⟩ hK
      simp only at hK
      have hlen2 := hK.len
      rw [List.length_append] at hlen2
      rcases td with _ | ⟨x, rest⟩
      · rw [List.append_nil] at hK
        have hdone := kinv_done (fun r hr => by have := hrul r hr; omega) hK
        refine W_T ?_
        (repeat' (first | (simp (disch := omega) only [push_cast, ↓zz, seval, pL, lL, pI, lI]) | (with_reducible refine And.intro ?_ ?_) | (with_reducible refine condW_split ?_ ?_ <;> intro hc <;> (try simp only [push_cast] at hc)) | (with_reducible refine guardW_split ?_ ?_ <;> intro hc <;> (try simp only [push_cast] at hc)) | omega | (with_reducible intro _)))
        all_goals exact decide_eq_decide.2 (by rw [← hdone]; omega)
      · have hx := hK.range x (by simp)
        obtain ⟨s, rfl⟩ : ∃ s : Nat, x = s := ⟨x.toNat, by omega⟩
        have hsn : s < n := by omega
        have hsP : (s : Int) ∉ P := fun hh => by
          exact (List.nodup_append.1 hK.nodup).2.2 (s : Int) hh (s : Int) (by simp) rfl
        have aS := aL s hsn
        have aS2 := aL2 s hsn
        have j0 : (junk.map (AV.int .i64) ++ AV.int .i64 (s : Int) :: rest.map (AV.int .i64)).getD junk.length .any = .int .i64 s := by simp [List.getD]
        have j1 : nth (junk ++ (s : Int) :: rest) junk.length = s := by simp [nth]
        have hjl : (junk ++ (s : Int) :: rest).length = junk.length + (rest.length + 1) := by simp
        simp only [List.length_cons] at hlen2
        refine W_T ?_
        (repeat' (first | (simp (disch := omega) only [push_cast, ↓zz, seval, pL, lL, pI, lI, aS, aS2, j0, j1, hjl, List.length_cons]) | (with_reducible refine And.intro ?_ ?_) | (with_reducible refine condW_split ?_ ?_ <;> intro hc <;> (try simp only [push_cast] at hc)) | (with_reducible refine guardW_split ?_ ?_ <;> intro hc <;> (try simp only [push_cast] at hc)) | omega | (with_reducible intro _)))
        have hK0 : KInv d.rules n (P ++ [(s : Int)] ++ rest) (leftE d.rules P s 0) := by
          rw [leftE_zero, List.append_assoc]
          exact hK
        have hDb := toD_bd d.rules s
        refine LoopK_T (T_loopR (fun (q : Nat × List Int × List Int) => q.1 ≤ (toD d.rules s).length ∧ KInv d.rules n (P ++ [(s : Int)] ++ q.2.1) (leftE d.rules P s q.1)) (fun q => (toD d.rules s).length - q.1)
          (fun q => [(1, .ptr 0 1 0 0), (3, .lst 1 L), (4, .ref 1 1 0 n), (7, .ref 2 1 q.2.2.length q.2.1.length), (10, .int .i64 P.length), (79, intsV (toD d.rules s)), (80, .int .i64 (toD d.rules s).length), (81, .int .i64 q.1)]) (fun q => [⟨6, 1, true, [descV d]⟩, ⟨1, 1, true, famI n (leftE d.rules P s q.1)⟩, ⟨1, 1, false, (q.2.2 ++ q.2.1).map (AV.int .i64)⟩]) (fun env _ => [srcOf 1 (env 1), srcOf 1 (env 4), srcOf 1 (env 7)]) (0, rest, junk ++ [(s : Int)]) ⟨by simp, hK0⟩ ?_ ?_)
        · have e0 := leftE_zero d.rules P s
          (repeat' (first | (simp (disch := omega) only [push_cast, ↓zz, seval, pL, lL, pI, lI, e0, List.map_append, List.append_assoc, List.map_cons, List.map_nil, List.cons_append, List.nil_append, List.length_append, List.length_cons, List.length_nil]) | (with_reducible refine And.intro ?_ ?_) | (with_reducible refine condW_split ?_ ?_ <;> intro hc <;> (try simp only [push_cast] at hc)) | (with_reducible refine guardW_split ?_ ?_ <;> intro hc <;> (try simp only [push_cast] at hc)) | omega | (with_reducible intro _)))
        rintro ⟨m, td, jk⟩ ⟨m1, m2⟩
        simp only at m1 m2
        have hlen3 := m2.len
        simp only [List.length_append, List.length_cons, List.length_nil] at hlen3
        rcases Nat.lt_or_ge m (toD d.rules s).length with hm | hm
        · obtain ⟨t1, t2⟩ := hto s m hm
          obtain ⟨t, ht⟩ : ∃ t : Nat, nth (toD d.rules s) m = t := ⟨(nth (toD d.rules s) m).toNat, by omega⟩
          have htn : t < n := by omega
          have hst := kinv_step hsP hm ht htn m2
          have hle := leftE_step (P := P) hm ht
          have hps := leftE_pos hsP hm ht
          have aT := aI (leftE d.rules P s m) t htn
          have aT2 := aI (leftE d.rules P s (m + 1)) t htn
          have hv : leftE d.rules P s (m + 1) t = leftE d.rules P s m t - 1 := by rw [hle]; simp
          have hset : (famI n (leftE d.rules P s m)).set t (.int .i64 (leftE d.rules P s m t - 1)) = famI n (leftE d.rules P s (m + 1)) := by rw [hle]; exact famI_set htn
          have hlb : leftE d.rules P s m t ≤ 4096 := by
            have c1 : cntE d.rules P t ≤ inD d.rules t := by
              rw [← cntE_nil]
              exact cntE_le _ _ _
            have c2 := inD_bd d.rules t
            have c3 : leftE d.rules P s m t ≤ cntE d.rules P t := by simp only [leftE]; omega
            omega
          rw [hv] at aT2
          generalize leftE d.rules P s m t = v at *
          refine W_T ?_
          have eD : List.drop jk.length (jk.map (AV.int .i64) ++ td.map (AV.int .i64)) = td.map (AV.int .i64) := by
            rw [List.drop_append_of_le_length (by simp), List.drop_eq_nil_of_le (by simp), List.nil_append]
          (repeat' (first | (simp (disch := omega) only [push_cast, ↓zz, seval, pL, lL, pI, lI, ht, aT, aT2, hset, eD]) | (with_reducible refine And.intro ?_ ?_) | (with_reducible refine condW_split ?_ ?_ <;> intro hc <;> (try simp only [push_cast] at hc)) | (with_reducible refine guardW_split ?_ ?_ <;> intro hc <;> (try simp only [push_cast] at hc)) | omega | (with_reducible intro _)))
          · rw [if_pos (by assumption)] at hst
            refine ⟨(m + 1, td ++ [(t : Int)], jk), ?_⟩
            (repeat' (first | (simp (disch := omega) only [push_cast, ↓zz, seval, List.map_append, List.append_assoc, List.map_cons, List.map_nil, List.length_append, List.length_cons, List.length_nil]) | (with_reducible refine And.intro ?_ ?_) | (with_reducible refine condW_split ?_ ?_ <;> intro hc <;> (try simp only [push_cast] at hc)) | (with_reducible refine guardW_split ?_ ?_ <;> intro hc <;> (try simp only [push_cast] at hc)) | omega | (with_reducible intro _)))
            simpa [List.append_assoc] using hst
          · rw [if_pos (by assumption)] at hst
            refine ⟨(m + 1, td ++ [(t : Int)], []), ?_⟩
            (repeat' (first | (simp (disch := omega) only [push_cast, ↓zz, seval, List.map_append, List.append_assoc, List.map_cons, List.map_nil, List.nil_append, List.length_append, List.length_cons, List.length_nil]) | (with_reducible refine And.intro ?_ ?_) | (with_reducible refine condW_split ?_ ?_ <;> intro hc <;> (try simp only [push_cast] at hc)) | (with_reducible refine guardW_split ?_ ?_ <;> intro hc <;> (try simp only [push_cast] at hc)) | omega | (with_reducible intro _)))
            simpa [List.append_assoc] using hst
          · rw [if_neg (by assumption)] at hst
            refine ⟨(m + 1, td, jk), ?_⟩
            (repeat' (first | (simp (disch := omega) only [push_cast, ↓zz, seval]) | (with_reducible refine And.intro ?_ ?_) | (with_reducible refine condW_split ?_ ?_ <;> intro hc <;> (try simp only [push_cast] at hc)) | (with_reducible refine guardW_split ?_ ?_ <;> intro hc <;> (try simp only [push_cast] at hc)) | omega | (with_reducible intro _)))
            simpa [List.append_assoc] using hst
        · have hme : m = (toD d.rules s).length := by omega
          subst hme
          have hE := leftE_end (l := d.rules) hsP
          rw [hE] at m2
          rw [hE]
          refine W_T ?_
          (repeat' (first | (simp (disch := omega) only [push_cast, ↓zz, seval, pL, lL, pI, lI]) | (with_reducible refine And.intro ?_ ?_) | (with_reducible refine condW_split ?_ ?_ <;> intro hc <;> (try simp only [push_cast] at hc)) | (with_reducible refine guardW_split ?_ ?_ <;> intro hc <;> (try simp only [push_cast] at hc)) | omega | (with_reducible intro _)))
          all_goals
            refine ⟨(P ++ [(s : Int)], td, jk), ?_⟩
            (repeat' (first | (simp (disch := omega) only [push_cast, ↓zz, seval, List.length_append, List.length_cons, List.length_nil]) | (with_reducible refine And.intro ?_ ?_) | (with_reducible refine condW_split ?_ ?_ <;> intro hc <;> (try simp only [push_cast] at hc)) | (with_reducible refine guardW_split ?_ ?_ <;> intro hc <;> (try simp only [push_cast] at hc)) | omega | (with_reducible intro _)))
          all_goals (simpa [List.append_assoc] using m2)
end Go.Proofs.Yticodgjinajkpaa
