/-
  The laws TermImages, TermFits, TermPoints return true whatever comes in.
-/
import Derived.Test.YtdjbcenfgceejaaTB8
set_option linter.unusedSimpArgs false
set_option linter.unusedVariables false
namespace Go.Proofs.Ytdjbcenfgceejaa
open Abs
theorem greatG {t : Term} {l : List (List Span)} (h : greatB t l = false) : t.parts.length ≤ 20 ∧ l.length ≤ 20 ∧ ∀ g ∈ l, g.length ≤ 50 := by
  simp only [greatB, Bool.or_eq_false_iff, decide_eq_false_iff_not] at h
  obtain ⟨⟨h1, h2⟩, h3⟩ := h
  refine ⟨by omega, by omega, fun g hg => ?_⟩
  have := List.any_eq_false.1 h3 g hg
  simp only [decide_eq_true_eq] at this
  omega
theorem few_prod {gs : List (List Span)} (h : ¬ 3000 < winsN gs 3000) : prodC gs ≤ 3000 := by
  rw [wins_prod gs (by omega)] at h
  omega
theorem law_TermImages (t : Term) (gs : List (List Span)) (ht : termOk t) (hgs : gs.length ≤ maxLen) : PC Try.prog 10 [termV t, guardsV gs] (.bool true) := by
  have hG := law_great t gs
  have hP := pure_guards gs
  cases hg : greatB t gs with
  | true =>
    rw [hg] at hG
    refine pc_w' c_law04_TermImages ?_
    unfold B_law04_TermImages
    (repeat' (first | (simp (disch := omega) only [push_cast, ↓zz, seval]) | (with_reducible refine And.intro ?_ ?_) | (with_reducible refine condW_split ?_ ?_ <;> intro hc <;> (try simp only [push_cast] at hc)) | (with_reducible refine guardW_split ?_ ?_ <;> intro hc <;> (try simp only [push_cast] at hc)) | ((with_reducible first | refine eK hG ?_ | refine eQ hG ?_ | refine eG hG ?_)) | ((with_reducible first | refine eK law_awake ?_ | refine eQ law_awake ?_ | refine eG law_awake ?_)) | ((with_reducible first | refine cK hG ?_ | refine cQ hG ?_ | refine cG hG ?_); (simp (disch := omega) only [push_cast, ↓zz, seval]); (fail_if_success (with_reducible change False))) | ((with_reducible first | refine cK law_awake ?_ | refine cQ law_awake ?_ | refine cG law_awake ?_); (simp (disch := omega) only [push_cast, ↓zz, seval]); (fail_if_success (with_reducible change False))) | omega | (with_reducible intro _)))
  | false =>
    rw [hg] at hG
    obtain ⟨g1, g2, g3⟩ := greatG hg
    have hW := ref04_Windows gs 3000 (by omega) (by omega) (fun g h => by have := g3 g h; omega)
    by_cases hc : gs.length ≤ 4 ∧ 3000 < winsN gs 3000
    · refine pc_w' c_law04_TermImages ?_
      unfold B_law04_TermImages
      (repeat' (first | (simp (disch := omega) only [push_cast, ↓zz, seval, hP]) | (with_reducible refine And.intro ?_ ?_) | (with_reducible refine condW_split ?_ ?_ <;> intro hc <;> (try simp only [push_cast] at hc)) | (with_reducible refine guardW_split ?_ ?_ <;> intro hc <;> (try simp only [push_cast] at hc)) | ((with_reducible first | refine eK hG ?_ | refine eQ hG ?_ | refine eG hG ?_)) | ((with_reducible first | refine eK law_awake ?_ | refine eQ law_awake ?_ | refine eG law_awake ?_)) | ((with_reducible first | refine eK hW ?_ | refine eQ hW ?_ | refine eG hW ?_)) | ((with_reducible first | refine cK hG ?_ | refine cQ hG ?_ | refine cG hG ?_); (simp (disch := omega) only [push_cast, ↓zz, seval, hP]); (fail_if_success (with_reducible change False))) | ((with_reducible first | refine cK law_awake ?_ | refine cQ law_awake ?_ | refine cG law_awake ?_); (simp (disch := omega) only [push_cast, ↓zz, seval, hP]); (fail_if_success (with_reducible change False))) | ((with_reducible first | refine cK hW ?_ | refine cQ hW ?_ | refine cG hW ?_); (simp (disch := omega) only [push_cast, ↓zz, seval, hP]); (fail_if_success (with_reducible change False))) | omega | (with_reducible intro _)))
    · have e := image_ref (t := t) (gs := gs) fun h4 => few_prod fun h => hc ⟨h4, h⟩
      have hI := term_Image t gs (by omega) (fun g h => by have := g3 g h; omega) (by omega)
      have hR := ref04_Image t gs (by omega) (fun g h => by have := g3 g h; omega) (by omega)
      rw [← e] at hR
      have hlen := image_len t gs
      generalize imageV t gs = m at *
      have hS := ref01_Same m.1 m.1 (by omega)
      rw [decide_eq_true rfl] at hS
      refine pc_w' c_law04_TermImages ?_
      unfold B_law04_TermImages
      (repeat' (first | (simp (disch := omega) only [push_cast, ↓zz, seval, hP, beq_self_eq_true]) | (with_reducible refine And.intro ?_ ?_) | (with_reducible refine condW_split ?_ ?_ <;> intro hc <;> (try simp only [push_cast] at hc)) | (with_reducible refine guardW_split ?_ ?_ <;> intro hc <;> (try simp only [push_cast] at hc)) | ((with_reducible first | refine eK hG ?_ | refine eQ hG ?_ | refine eG hG ?_)) | ((with_reducible first | refine eK law_awake ?_ | refine eQ law_awake ?_ | refine eG law_awake ?_)) | ((with_reducible first | refine eK hW ?_ | refine eQ hW ?_ | refine eG hW ?_)) | ((with_reducible first | refine eK hI ?_ | refine eQ hI ?_ | refine eG hI ?_)) | ((with_reducible first | refine eK hR ?_ | refine eQ hR ?_ | refine eG hR ?_)) | ((with_reducible first | refine eK hS ?_ | refine eQ hS ?_ | refine eG hS ?_)) | ((with_reducible first | refine cK hG ?_ | refine cQ hG ?_ | refine cG hG ?_); (simp (disch := omega) only [push_cast, ↓zz, seval, hP, beq_self_eq_true]); (fail_if_success (with_reducible change False))) | ((with_reducible first | refine cK law_awake ?_ | refine cQ law_awake ?_ | refine cG law_awake ?_); (simp (disch := omega) only [push_cast, ↓zz, seval, hP, beq_self_eq_true]); (fail_if_success (with_reducible change False))) | ((with_reducible first | refine cK hW ?_ | refine cQ hW ?_ | refine cG hW ?_); (simp (disch := omega) only [push_cast, ↓zz, seval, hP, beq_self_eq_true]); (fail_if_success (with_reducible change False))) | ((with_reducible first | refine cK hI ?_ | refine cQ hI ?_ | refine cG hI ?_); (simp (disch := omega) only [push_cast, ↓zz, seval, hP, beq_self_eq_true]); (fail_if_success (with_reducible change False))) | ((with_reducible first | refine cK hR ?_ | refine cQ hR ?_ | refine cG hR ?_); (simp (disch := omega) only [push_cast, ↓zz, seval, hP, beq_self_eq_true]); (fail_if_success (with_reducible change False))) | ((with_reducible first | refine cK hS ?_ | refine cQ hS ?_ | refine cG hS ?_); (simp (disch := omega) only [push_cast, ↓zz, seval, hP, beq_self_eq_true]); (fail_if_success (with_reducible change False))) | omega | (with_reducible intro _)))
      all_goals (simp at *; done)
theorem law_TermFits (t : Term) (i o : Int) (gs : List (List Span)) (ht : termOk t) (hgs : gs.length ≤ maxLen) : PC Try.prog 11 [termV t, .int .i64 i, .int .i64 o, guardsV gs] (.bool true) := by
  have hG := law_great t gs
  have hP := pure_guards gs
  cases hg : greatB t gs with
  | true =>
    rw [hg] at hG
    refine pc_w' c_law04_TermFits ?_
    unfold B_law04_TermFits
    (repeat' (first | (simp (disch := omega) only [push_cast, ↓zz, seval]) | (with_reducible refine And.intro ?_ ?_) | (with_reducible refine condW_split ?_ ?_ <;> intro hc <;> (try simp only [push_cast] at hc)) | (with_reducible refine guardW_split ?_ ?_ <;> intro hc <;> (try simp only [push_cast] at hc)) | ((with_reducible first | refine eK hG ?_ | refine eQ hG ?_ | refine eG hG ?_)) | ((with_reducible first | refine eK law_awake ?_ | refine eQ law_awake ?_ | refine eG law_awake ?_)) | ((with_reducible first | refine cK hG ?_ | refine cQ hG ?_ | refine cG hG ?_); (simp (disch := omega) only [push_cast, ↓zz, seval]); (fail_if_success (with_reducible change False))) | ((with_reducible first | refine cK law_awake ?_ | refine cQ law_awake ?_ | refine cG law_awake ?_); (simp (disch := omega) only [push_cast, ↓zz, seval]); (fail_if_success (with_reducible change False))) | omega | (with_reducible intro _)))
  | false =>
    rw [hg] at hG
    obtain ⟨g1, g2, g3⟩ := greatG hg
    have hW := ref04_Windows gs 3000 (by omega) (by omega) (fun g h => by have := g3 g h; omega)
    by_cases hc : gs.length ≤ 4 ∧ 3000 < winsN gs 3000
    · refine pc_w' c_law04_TermFits ?_
      unfold B_law04_TermFits
      (repeat' (first | (simp (disch := omega) only [push_cast, ↓zz, seval, hP]) | (with_reducible refine And.intro ?_ ?_) | (with_reducible refine condW_split ?_ ?_ <;> intro hc <;> (try simp only [push_cast] at hc)) | (with_reducible refine guardW_split ?_ ?_ <;> intro hc <;> (try simp only [push_cast] at hc)) | ((with_reducible first | refine eK hG ?_ | refine eQ hG ?_ | refine eG hG ?_)) | ((with_reducible first | refine eK law_awake ?_ | refine eQ law_awake ?_ | refine eG law_awake ?_)) | ((with_reducible first | refine eK hW ?_ | refine eQ hW ?_ | refine eG hW ?_)) | ((with_reducible first | refine cK hG ?_ | refine cQ hG ?_ | refine cG hG ?_); (simp (disch := omega) only [push_cast, ↓zz, seval, hP]); (fail_if_success (with_reducible change False))) | ((with_reducible first | refine cK law_awake ?_ | refine cQ law_awake ?_ | refine cG law_awake ?_); (simp (disch := omega) only [push_cast, ↓zz, seval, hP]); (fail_if_success (with_reducible change False))) | ((with_reducible first | refine cK hW ?_ | refine cQ hW ?_ | refine cG hW ?_); (simp (disch := omega) only [push_cast, ↓zz, seval, hP]); (fail_if_success (with_reducible change False))) | omega | (with_reducible intro _)))
    · have e := fits_ref (t := t) (i := i) (o := o) (gs := gs) fun h4 => few_prod fun h => hc ⟨h4, h⟩
      have hI := term_Fits t i o gs (by omega) (fun g h => by have := g3 g h; omega) (by omega)
      have hR := ref04_Fits t i o gs (by omega) (fun g h => by have := g3 g h; omega) (by omega)
      rw [← e] at hR
      generalize fitsT t i o gs = m at *
      refine pc_w' c_law04_TermFits ?_
      unfold B_law04_TermFits
      (repeat' (first | (simp (disch := omega) only [push_cast, ↓zz, seval, hP, beq_self_eq_true]) | (with_reducible refine And.intro ?_ ?_) | (with_reducible refine condW_split ?_ ?_ <;> intro hc <;> (try simp only [push_cast] at hc)) | (with_reducible refine guardW_split ?_ ?_ <;> intro hc <;> (try simp only [push_cast] at hc)) | ((with_reducible first | refine eK hG ?_ | refine eQ hG ?_ | refine eG hG ?_)) | ((with_reducible first | refine eK law_awake ?_ | refine eQ law_awake ?_ | refine eG law_awake ?_)) | ((with_reducible first | refine eK hW ?_ | refine eQ hW ?_ | refine eG hW ?_)) | ((with_reducible first | refine eK hI ?_ | refine eQ hI ?_ | refine eG hI ?_)) | ((with_reducible first | refine eK hR ?_ | refine eQ hR ?_ | refine eG hR ?_)) | ((with_reducible first | refine cK hG ?_ | refine cQ hG ?_ | refine cG hG ?_); (simp (disch := omega) only [push_cast, ↓zz, seval, hP, beq_self_eq_true]); (fail_if_success (with_reducible change False))) | ((with_reducible first | refine cK law_awake ?_ | refine cQ law_awake ?_ | refine cG law_awake ?_); (simp (disch := omega) only [push_cast, ↓zz, seval, hP, beq_self_eq_true]); (fail_if_success (with_reducible change False))) | ((with_reducible first | refine cK hW ?_ | refine cQ hW ?_ | refine cG hW ?_); (simp (disch := omega) only [push_cast, ↓zz, seval, hP, beq_self_eq_true]); (fail_if_success (with_reducible change False))) | ((with_reducible first | refine cK hI ?_ | refine cQ hI ?_ | refine cG hI ?_); (simp (disch := omega) only [push_cast, ↓zz, seval, hP, beq_self_eq_true]); (fail_if_success (with_reducible change False))) | ((with_reducible first | refine cK hR ?_ | refine cQ hR ?_ | refine cG hR ?_); (simp (disch := omega) only [push_cast, ↓zz, seval, hP, beq_self_eq_true]); (fail_if_success (with_reducible change False))) | omega | (with_reducible intro _)))
      all_goals (simp at *; done)
theorem image_ok {t : Term} {gs : List (List Span)} (h : (imageV t gs).2 = true) : gs.length ≤ 4 ∧ numbersB t = true ∧ prtB t gs.length = true := by
  by_cases h1 : 4 < gs.length ∨ numbersB t = false
  · have e : innerV t gs = ([], false) := by rw [innerV, if_pos h1]
    rw [imageV, e, if_pos rfl] at h
    cases h
  · obtain ⟨h4, hn⟩ := prt_cond h1
    refine ⟨h4, hn, ?_⟩
    cases hp : prtB t gs.length
    · have e : innerV t gs = ([], false) := by rw [innerV, if_neg h1, if_pos hp]
      rw [imageV, e, if_pos rfl] at h
      cases h
    · rfl
theorem point_in {t : Term} {gs : List (List Span)} {w : List Int} (hw : Win (gs.map symI) w) (h : (imageV t gs).2 = true) : (valueT t w).isSome = true ∧ hasI (imageV t gs).1 ((valueT t w).getD 0) = true := by
  obtain ⟨h4, hn, hp⟩ := image_ok h
  obtain ⟨s1, s2, s3⟩ := image_spec h4 hn hp
  have hs := s1.1 h w hw
  have hv := some_get hs
  exact ⟨hs, (hasI_in (image_bd h4 hn hp hw hv)).2 (((s3 h).2 _).2 ⟨w, hw, hv⟩)⟩
theorem point_fit {t : Term} {i o : Int} {gs : List (List Span)} {w : List Int} (h4 : gs.length ≤ 4) (hw : Win (gs.map symI) w) (h : fitsT t i o gs = true) : (valueT t w).isSome = true ∧ inDom o ((valueT t w).getD 0) = true := by
  have := ((fits_spec h4).1 h).2 w hw
  rw [fitW] at this
  cases hv : valueT t w with
  | none => rw [hv] at this; cases this
  | some v =>
    rw [hv] at this
    simp only [Bool.and_eq_true] at this
    exact ⟨rfl, this.2⟩
theorem win_of {gs : List (List Span)} {w : List Int} (hl : w.length = gs.length) (h : ∀ j, j < gs.length → hasI (nth gs j) (nth w j) = true ∧ 0 ≤ nth w j ∧ nth w j ≤ 1114111) : Win (gs.map symI) w := by
  refine ⟨by simp [hl], fun i hi => ?_⟩
  have hi' : i < gs.length := by simpa using hi
  obtain ⟨h1, h2, h3⟩ := h i hi'
  have e : nth (gs.map symI) i = symI (nth gs i) := by simp [nth, hi']
  rw [e, (symI_spec _).2]
  exact ⟨⟨h2, h3⟩, (hasI_iff.1 h1).2.2⟩
set_option maxHeartbeats 4000000 in
theorem law_TermPoints (t : Term) (i o : Int) (gs : List (List Span)) (w : List Int) (ht : termOk t) (hgs : gs.length ≤ maxLen) (hwl : w.length ≤ maxLen) (h32 : ∀ x ∈ w, -2147483648 ≤ x ∧ x ≤ 2147483647) : PC Try.prog 12 [termV t, .int .i64 i, .int .i64 o, guardsV gs, runesV w] (.bool true) := by
  have hG := law_great t gs
  have hP := pure_guards gs
  refine pc_w' c_law04_TermPoints ?_
  unfold B_law04_TermPoints
  by_cases hbad : greatB t gs = true ∨ w.length ≠ gs.length ∨ 4 < gs.length
  · cases hg : greatB t gs with
    | true =>
      rw [hg] at hG
      (repeat' (first | (simp (disch := omega) only [push_cast, ↓zz, seval]) | (with_reducible refine And.intro ?_ ?_) | (with_reducible refine condW_split ?_ ?_ <;> intro hc <;> (try simp only [push_cast] at hc)) | (with_reducible refine guardW_split ?_ ?_ <;> intro hc <;> (try simp only [push_cast] at hc)) | ((with_reducible first | refine eK hG ?_ | refine eQ hG ?_ | refine eG hG ?_)) | ((with_reducible first | refine eK law_awake ?_ | refine eQ law_awake ?_ | refine eG law_awake ?_)) | ((with_reducible first | refine cK hG ?_ | refine cQ hG ?_ | refine cG hG ?_); (simp (disch := omega) only [push_cast, ↓zz, seval]); (fail_if_success (with_reducible change False))) | ((with_reducible first | refine cK law_awake ?_ | refine cQ law_awake ?_ | refine cG law_awake ?_); (simp (disch := omega) only [push_cast, ↓zz, seval]); (fail_if_success (with_reducible change False))) | omega | (with_reducible intro _)))
    | false =>
      rw [hg] at hG hbad
      by_cases hl : w.length = gs.length
      · (repeat' (first | (simp (disch := omega) only [push_cast, ↓zz, seval, hl]) | (with_reducible refine And.intro ?_ ?_) | (with_reducible refine condW_split ?_ ?_ <;> intro hc <;> (try simp only [push_cast] at hc)) | (with_reducible refine guardW_split ?_ ?_ <;> intro hc <;> (try simp only [push_cast] at hc)) | ((with_reducible first | refine eK hG ?_ | refine eQ hG ?_ | refine eG hG ?_)) | ((with_reducible first | refine eK law_awake ?_ | refine eQ law_awake ?_ | refine eG law_awake ?_)) | ((with_reducible first | refine cK hG ?_ | refine cQ hG ?_ | refine cG hG ?_); (simp (disch := omega) only [push_cast, ↓zz, seval, hl]); (fail_if_success (with_reducible change False))) | ((with_reducible first | refine cK law_awake ?_ | refine cQ law_awake ?_ | refine cG law_awake ?_); (simp (disch := omega) only [push_cast, ↓zz, seval, hl]); (fail_if_success (with_reducible change False))) | omega | (with_reducible intro _)))
        all_goals (exfalso; rcases hbad with h | h | h <;> first | omega | cases h)
      · (repeat' (first | (simp (disch := omega) only [push_cast, ↓zz, seval, hl]) | (with_reducible refine And.intro ?_ ?_) | (with_reducible refine condW_split ?_ ?_ <;> intro hc <;> (try simp only [push_cast] at hc)) | (with_reducible refine guardW_split ?_ ?_ <;> intro hc <;> (try simp only [push_cast] at hc)) | ((with_reducible first | refine eK hG ?_ | refine eQ hG ?_ | refine eG hG ?_)) | ((with_reducible first | refine eK law_awake ?_ | refine eQ law_awake ?_ | refine eG law_awake ?_)) | ((with_reducible first | refine cK hG ?_ | refine cQ hG ?_ | refine cG hG ?_); (simp (disch := omega) only [push_cast, ↓zz, seval, hl]); (fail_if_success (with_reducible change False))) | ((with_reducible first | refine cK law_awake ?_ | refine cQ law_awake ?_ | refine cG law_awake ?_); (simp (disch := omega) only [push_cast, ↓zz, seval, hl]); (fail_if_success (with_reducible change False))) | omega | (with_reducible intro _)))
  have hg : greatB t gs = false := by simpa using (not_or.1 hbad).1
  rw [hg] at hG
  obtain ⟨g1, g2, g3⟩ := greatG hg
  have hl : w.length = gs.length := by omega
  have h4 : gs.length ≤ 4 := by omega
  (repeat' (first | (simp (disch := omega) only [push_cast, ↓zz, seval, hl]) | (with_reducible refine And.intro ?_ ?_) | (with_reducible refine condW_split ?_ ?_ <;> intro hc <;> (try simp only [push_cast] at hc)) | (with_reducible refine guardW_split ?_ ?_ <;> intro hc <;> (try simp only [push_cast] at hc)) | ((with_reducible first | refine eK hG ?_ | refine eQ hG ?_ | refine eG hG ?_)) | ((with_reducible first | refine eK law_awake ?_ | refine eQ law_awake ?_ | refine eG law_awake ?_)) | ((with_reducible first | refine cK hG ?_ | refine cQ hG ?_ | refine cG hG ?_); (simp (disch := omega) only [push_cast, ↓zz, seval, hl]); (fail_if_success (with_reducible change False))) | ((with_reducible first | refine cK law_awake ?_ | refine cQ law_awake ?_ | refine cG law_awake ?_); (simp (disch := omega) only [push_cast, ↓zz, seval, hl]); (fail_if_success (with_reducible change False))) | omega | (with_reducible intro _)))
  refine LoopK_T (T_loopR (fun (k : Nat) => k ≤ gs.length ∧ ∀ j, j < k → hasI (nth gs j) (nth w j) = true ∧ 0 ≤ nth w j ∧ nth w j ≤ 1114111) (fun k => gs.length - k)
    (fun k => [(1, .int .i64 i), (2, .int .i64 o), (3, guardsV gs), (4, runesV w), (5, .ptr 0 1 0 0), (11, .int .i64 k)]) (fun k => [⟨6, 1, true, [termV t]⟩]) (fun env _ => [srcOf 1 (env 5)]) 0 ⟨by simp, fun j hj => by omega⟩ ?_ ?_)
  · (repeat' (first | (simp (disch := omega) only [push_cast, ↓zz, seval, hP]) | (with_reducible refine And.intro ?_ ?_) | (with_reducible refine condW_split ?_ ?_ <;> intro hc <;> (try simp only [push_cast] at hc)) | (with_reducible refine guardW_split ?_ ?_ <;> intro hc <;> (try simp only [push_cast] at hc)) | omega | (with_reducible intro _)))
  rintro k ⟨k1, k2⟩
  rcases Nat.lt_or_ge k gs.length with hk | hk
  · have hx := h32 _ (nth_mem (l := w) (i := k) (by omega))
    have hH := span_Has (nth gs k) (nth w k) (by have := g3 _ (nth_mem hk); omega)
    have hw : IntKind.i64.wrap (nth w k) = nth w k := IntWalk.i64_in _ (by omega)
    refine W_T ?_
    (repeat' (first | (simp (disch := omega) only [push_cast, ↓zz, seval, hP, hl, hw]) | (with_reducible refine And.intro ?_ ?_) | (with_reducible refine condW_split ?_ ?_ <;> intro hc <;> (try simp only [push_cast] at hc)) | (with_reducible refine guardW_split ?_ ?_ <;> intro hc <;> (try simp only [push_cast] at hc)) | ((with_reducible first | refine eK hH ?_ | refine eQ hH ?_ | refine eG hH ?_)) | ((with_reducible first | refine eK law_awake ?_ | refine eQ law_awake ?_ | refine eG law_awake ?_)) | ((with_reducible first | refine cK hH ?_ | refine cQ hH ?_ | refine cG hH ?_); (simp (disch := omega) only [push_cast, ↓zz, seval, hP, hl, hw]); (fail_if_success (with_reducible change False))) | ((with_reducible first | refine cK law_awake ?_ | refine cQ law_awake ?_ | refine cG law_awake ?_); (simp (disch := omega) only [push_cast, ↓zz, seval, hP, hl, hw]); (fail_if_success (with_reducible change False))) | omega | (with_reducible intro _)))
    refine ⟨k + 1, by push_cast, ⟨by omega, fun j hj => ?_⟩, by omega⟩
    rcases Nat.lt_or_ge j k with h | h
    · exact k2 j h
    · obtain rfl : j = k := by omega
      exact ⟨by assumption, by omega, by omega⟩
  · obtain rfl : k = gs.length := by omega
    have hwin := win_of hl k2
    have hI := term_Image t gs (by omega) (fun g h => by have := g3 g h; omega) (by omega)
    have hF := term_Fits t i o gs (by omega) (fun g h => by have := g3 g h; omega) (by omega)
    have hV := term_Value t w (by omega) (by omega) h32
    have hA := point_in (t := t) hwin
    have hB := point_fit (t := t) (i := i) (o := o) h4 hwin
    have hil := image_len t gs
    have hH := span_Has (imageV t gs).1 ((valueT t w).getD 0) (by omega)
    generalize fitsT t i o gs = f at *
    generalize imageV t gs = im at *
    obtain ⟨l, ok⟩ := im
    generalize valueT t w = vo at *
    simp only at *
    cases vo with
    | none =>
      have eo : ok = false := by
        cases ok
        · rfl
        · have := (hA rfl).1; cases this
      have ef : f = false := by
        cases f
        · rfl
        · have := (hB rfl).1; cases this
      subst eo
      subst ef
      refine W_T ?_
      (repeat' (first | (simp (disch := omega) only [push_cast, ↓zz, seval, hP, hl, Option.isSome_none, Option.getD_none]) | (with_reducible refine And.intro ?_ ?_) | (with_reducible refine condW_split ?_ ?_ <;> intro hc <;> (try simp only [push_cast] at hc)) | (with_reducible refine guardW_split ?_ ?_ <;> intro hc <;> (try simp only [push_cast] at hc)) | ((with_reducible first | refine eK hI ?_ | refine eQ hI ?_ | refine eG hI ?_)) | ((with_reducible first | refine eK hV ?_ | refine eQ hV ?_ | refine eG hV ?_)) | ((with_reducible first | refine eK hH ?_ | refine eQ hH ?_ | refine eG hH ?_)) | ((with_reducible first | refine eK hF ?_ | refine eQ hF ?_ | refine eG hF ?_)) | ((with_reducible first | refine eK law_awake ?_ | refine eQ law_awake ?_ | refine eG law_awake ?_)) | ((with_reducible first | refine cK hI ?_ | refine cQ hI ?_ | refine cG hI ?_); (simp (disch := omega) only [push_cast, ↓zz, seval, hP, hl, Option.isSome_none, Option.getD_none]); (fail_if_success (with_reducible change False))) | ((with_reducible first | refine cK hV ?_ | refine cQ hV ?_ | refine cG hV ?_); (simp (disch := omega) only [push_cast, ↓zz, seval, hP, hl, Option.isSome_none, Option.getD_none]); (fail_if_success (with_reducible change False))) | ((with_reducible first | refine cK hH ?_ | refine cQ hH ?_ | refine cG hH ?_); (simp (disch := omega) only [push_cast, ↓zz, seval, hP, hl, Option.isSome_none, Option.getD_none]); (fail_if_success (with_reducible change False))) | ((with_reducible first | refine cK hF ?_ | refine cQ hF ?_ | refine cG hF ?_); (simp (disch := omega) only [push_cast, ↓zz, seval, hP, hl, Option.isSome_none, Option.getD_none]); (fail_if_success (with_reducible change False))) | ((with_reducible first | refine cK law_awake ?_ | refine cQ law_awake ?_ | refine cG law_awake ?_); (simp (disch := omega) only [push_cast, ↓zz, seval, hP, hl, Option.isSome_none, Option.getD_none]); (fail_if_success (with_reducible change False))) | omega | (with_reducible intro _)))
    | some v =>
      have eo : ok = true → hasI l v = true := fun h => (hA h).2
      have ef : f = true → inDom o v = true := fun h => (hB h).2
      simp only [Option.getD_some] at hH
      clear hA hB
      cases f with
      | false =>
        clear ef
        cases ok with
        | false =>
          refine W_T ?_
          (repeat' (first | (simp (disch := omega) only [push_cast, ↓zz, seval, hP, hl, Option.isSome_some, Option.getD_some]) | (with_reducible refine And.intro ?_ ?_) | (with_reducible refine condW_split ?_ ?_ <;> intro hc <;> (try simp only [push_cast] at hc)) | (with_reducible refine guardW_split ?_ ?_ <;> intro hc <;> (try simp only [push_cast] at hc)) | ((with_reducible first | refine eK hI ?_ | refine eQ hI ?_ | refine eG hI ?_)) | ((with_reducible first | refine eK hV ?_ | refine eQ hV ?_ | refine eG hV ?_)) | ((with_reducible first | refine eK hF ?_ | refine eQ hF ?_ | refine eG hF ?_)) | ((with_reducible first | refine eK law_awake ?_ | refine eQ law_awake ?_ | refine eG law_awake ?_)) | ((with_reducible first | refine cK hI ?_ | refine cQ hI ?_ | refine cG hI ?_); (simp (disch := omega) only [push_cast, ↓zz, seval, hP, hl, Option.isSome_some, Option.getD_some]); (fail_if_success (with_reducible change False))) | ((with_reducible first | refine cK hV ?_ | refine cQ hV ?_ | refine cG hV ?_); (simp (disch := omega) only [push_cast, ↓zz, seval, hP, hl, Option.isSome_some, Option.getD_some]); (fail_if_success (with_reducible change False))) | ((with_reducible first | refine cK hF ?_ | refine cQ hF ?_ | refine cG hF ?_); (simp (disch := omega) only [push_cast, ↓zz, seval, hP, hl, Option.isSome_some, Option.getD_some]); (fail_if_success (with_reducible change False))) | ((with_reducible first | refine cK law_awake ?_ | refine cQ law_awake ?_ | refine cG law_awake ?_); (simp (disch := omega) only [push_cast, ↓zz, seval, hP, hl, Option.isSome_some, Option.getD_some]); (fail_if_success (with_reducible change False))) | omega | (with_reducible intro _)))
        | true =>
          rw [eo rfl] at hH
          refine W_T ?_
          (repeat' (first | (simp (disch := omega) only [push_cast, ↓zz, seval, hP, hl, Option.isSome_some, Option.getD_some]) | (with_reducible refine And.intro ?_ ?_) | (with_reducible refine condW_split ?_ ?_ <;> intro hc <;> (try simp only [push_cast] at hc)) | (with_reducible refine guardW_split ?_ ?_ <;> intro hc <;> (try simp only [push_cast] at hc)) | ((with_reducible first | refine eK hI ?_ | refine eQ hI ?_ | refine eG hI ?_)) | ((with_reducible first | refine eK hV ?_ | refine eQ hV ?_ | refine eG hV ?_)) | ((with_reducible first | refine eK hH ?_ | refine eQ hH ?_ | refine eG hH ?_)) | ((with_reducible first | refine eK hF ?_ | refine eQ hF ?_ | refine eG hF ?_)) | ((with_reducible first | refine eK law_awake ?_ | refine eQ law_awake ?_ | refine eG law_awake ?_)) | ((with_reducible first | refine cK hI ?_ | refine cQ hI ?_ | refine cG hI ?_); (simp (disch := omega) only [push_cast, ↓zz, seval, hP, hl, Option.isSome_some, Option.getD_some]); (fail_if_success (with_reducible change False))) | ((with_reducible first | refine cK hV ?_ | refine cQ hV ?_ | refine cG hV ?_); (simp (disch := omega) only [push_cast, ↓zz, seval, hP, hl, Option.isSome_some, Option.getD_some]); (fail_if_success (with_reducible change False))) | ((with_reducible first | refine cK hH ?_ | refine cQ hH ?_ | refine cG hH ?_); (simp (disch := omega) only [push_cast, ↓zz, seval, hP, hl, Option.isSome_some, Option.getD_some]); (fail_if_success (with_reducible change False))) | ((with_reducible first | refine cK hF ?_ | refine cQ hF ?_ | refine cG hF ?_); (simp (disch := omega) only [push_cast, ↓zz, seval, hP, hl, Option.isSome_some, Option.getD_some]); (fail_if_success (with_reducible change False))) | ((with_reducible first | refine cK law_awake ?_ | refine cQ law_awake ?_ | refine cG law_awake ?_); (simp (disch := omega) only [push_cast, ↓zz, seval, hP, hl, Option.isSome_some, Option.getD_some]); (fail_if_success (with_reducible change False))) | omega | (with_reducible intro _)))
      | true =>
        have hd := ef rfl
        simp only [inDom, decide_eq_true_eq] at hd
        clear ef
        cases ok with
        | false =>
          refine W_T ?_
          (repeat' (first | (simp (disch := omega) only [push_cast, ↓zz, seval, hP, hl, Option.isSome_some, Option.getD_some]) | (with_reducible refine And.intro ?_ ?_) | (with_reducible refine condW_split ?_ ?_ <;> intro hc <;> (try simp only [push_cast] at hc)) | (with_reducible refine guardW_split ?_ ?_ <;> intro hc <;> (try simp only [push_cast] at hc)) | ((with_reducible first | refine eK hI ?_ | refine eQ hI ?_ | refine eG hI ?_)) | ((with_reducible first | refine eK hV ?_ | refine eQ hV ?_ | refine eG hV ?_)) | ((with_reducible first | refine eK hF ?_ | refine eQ hF ?_ | refine eG hF ?_)) | ((with_reducible first | refine eK law_awake ?_ | refine eQ law_awake ?_ | refine eG law_awake ?_)) | ((with_reducible first | refine cK hI ?_ | refine cQ hI ?_ | refine cG hI ?_); (simp (disch := omega) only [push_cast, ↓zz, seval, hP, hl, Option.isSome_some, Option.getD_some]); (fail_if_success (with_reducible change False))) | ((with_reducible first | refine cK hV ?_ | refine cQ hV ?_ | refine cG hV ?_); (simp (disch := omega) only [push_cast, ↓zz, seval, hP, hl, Option.isSome_some, Option.getD_some]); (fail_if_success (with_reducible change False))) | ((with_reducible first | refine cK hF ?_ | refine cQ hF ?_ | refine cG hF ?_); (simp (disch := omega) only [push_cast, ↓zz, seval, hP, hl, Option.isSome_some, Option.getD_some]); (fail_if_success (with_reducible change False))) | ((with_reducible first | refine cK law_awake ?_ | refine cQ law_awake ?_ | refine cG law_awake ?_); (simp (disch := omega) only [push_cast, ↓zz, seval, hP, hl, Option.isSome_some, Option.getD_some]); (fail_if_success (with_reducible change False))) | omega | (with_reducible intro _)))
          all_goals first | omega | trace_state
        | true =>
          rw [eo rfl] at hH
          refine W_T ?_
          (repeat' (first | (simp (disch := omega) only [push_cast, ↓zz, seval, hP, hl, Option.isSome_some, Option.getD_some]) | (with_reducible refine And.intro ?_ ?_) | (with_reducible refine condW_split ?_ ?_ <;> intro hc <;> (try simp only [push_cast] at hc)) | (with_reducible refine guardW_split ?_ ?_ <;> intro hc <;> (try simp only [push_cast] at hc)) | ((with_reducible first | refine eK hI ?_ | refine eQ hI ?_ | refine eG hI ?_)) | ((with_reducible first | refine eK hV ?_ | refine eQ hV ?_ | refine eG hV ?_)) | ((with_reducible first | refine eK hH ?_ | refine eQ hH ?_ | refine eG hH ?_)) | ((with_reducible first | refine eK hF ?_ | refine eQ hF ?_ | refine eG hF ?_)) | ((with_reducible first | refine eK law_awake ?_ | refine eQ law_awake ?_ | refine eG law_awake ?_)) | ((with_reducible first | refine cK hI ?_ | refine cQ hI ?_ | refine cG hI ?_); (simp (disch := omega) only [push_cast, ↓zz, seval, hP, hl, Option.isSome_some, Option.getD_some]); (fail_if_success (with_reducible change False))) | ((with_reducible first | refine cK hV ?_ | refine cQ hV ?_ | refine cG hV ?_); (simp (disch := omega) only [push_cast, ↓zz, seval, hP, hl, Option.isSome_some, Option.getD_some]); (fail_if_success (with_reducible change False))) | ((with_reducible first | refine cK hH ?_ | refine cQ hH ?_ | refine cG hH ?_); (simp (disch := omega) only [push_cast, ↓zz, seval, hP, hl, Option.isSome_some, Option.getD_some]); (fail_if_success (with_reducible change False))) | ((with_reducible first | refine cK hF ?_ | refine cQ hF ?_ | refine cG hF ?_); (simp (disch := omega) only [push_cast, ↓zz, seval, hP, hl, Option.isSome_some, Option.getD_some]); (fail_if_success (with_reducible change False))) | ((with_reducible first | refine cK law_awake ?_ | refine cQ law_awake ?_ | refine cG law_awake ?_); (simp (disch := omega) only [push_cast, ↓zz, seval, hP, hl, Option.isSome_some, Option.getD_some]); (fail_if_success (with_reducible change False))) | omega | (with_reducible intro _)))
          all_goals first | omega | trace_state
end Go.Proofs.Ytdjbcenfgceejaa
