/-
  The statement UtfRows as a contract.
-/
import Derived.Test.YtdmjhlofphhldaaU12
set_option linter.unusedSimpArgs false
set_option linter.unusedVariables false
namespace Go.Proofs.Ytdmjhlofphhldaa
open Abs
theorem intsEq_sp {l m : List Span} {k : Nat} (h1 : k < l.length) (h2 : k < m.length) : l.drop k = m.drop k ↔ nth l k = nth m k ∧ l.drop (k + 1) = m.drop (k + 1) := by
  rw [drop_at h1, drop_at h2, List.cons.injEq]
theorem span_ext {s t : Span} : s = t ↔ s.lo = t.lo ∧ s.hi = t.hi := by cases s; cases t; simp
theorem ref01_Same (a b : List Span) (hl : a.length ≤ 1000000000000) : PC Try.prog 30 [spansV a, spansV b] (.bool (decide (a = b))) := by
  refine pc_w' c_ref01_Same ?_
  unfold B_ref01_Same
  (repeat' (first | (simp (disch := omega) only [push_cast, ↓z1, ↓z2, ↓z3, ↓z4, ↓z5, ↓z6, ↓z7, ↓z8, ↓z9, ↓z10, ↓z11, ↓z12, ↓z13, ↓z14, ↓z15, ↓z16, ↓z17, ↓z18, ↓z19, ↓z20, ↓z21, ↓z22, ↓z23, ↓z24, ↓z25, ↓z26, ↓z27, ↓z28, ↓z29, ↓z30, ↓z31, ↓z32, ↓z33, ↓reduceIte, reduceCtorEq, Nat.reduceEqDiff, Nat.reduceAdd, Nat.reduceSub, Nat.reduceMul, Nat.reduceLT, Nat.reduceLeDiff, Int.reduceEq, Int.reduceLT, Int.reduceLE, Int.reduceAdd, Int.reduceSub, Int.reduceNeg, Int.reduceToNat]) | (with_reducible refine And.intro ?_ ?_) | (with_reducible refine condW_split ?_ ?_ <;> intro hc <;> (try simp only [push_cast] at hc)) | (with_reducible refine guardW_split ?_ ?_ <;> intro hc <;> (try simp only [push_cast] at hc)) | omega | (with_reducible intro _)))
  all_goals first
    | (have : ¬ a = b := fun h => by simp_all
       simp [this]; done)
    | skip
  refine LoopK_T (T_loopR (fun (k : Nat) => k ≤ a.length ∧ (a = b ↔ a.drop k = b.drop k)) (fun k => a.length - k)
    (fun k => [(0, spansV a), (1, spansV b), (5, .int .i64 k)]) (fun _ => []) (fun _ _ => []) 0 (by simp) ?_ ?_)
  · (repeat' (first | (simp (disch := omega) only [push_cast, ↓z1, ↓z2, ↓z3, ↓z4, ↓z5, ↓z6, ↓z7, ↓z8, ↓z9, ↓z10, ↓z11, ↓z12, ↓z13, ↓z14, ↓z15, ↓z16, ↓z17, ↓z18, ↓z19, ↓z20, ↓z21, ↓z22, ↓z23, ↓z24, ↓z25, ↓z26, ↓z27, ↓z28, ↓z29, ↓z30, ↓z31, ↓z32, ↓z33, ↓reduceIte, reduceCtorEq, Nat.reduceEqDiff, Nat.reduceAdd, Nat.reduceSub, Nat.reduceMul, Nat.reduceLT, Nat.reduceLeDiff, Int.reduceEq, Int.reduceLT, Int.reduceLE, Int.reduceAdd, Int.reduceSub, Int.reduceNeg, Int.reduceToNat]) | (with_reducible refine And.intro ?_ ?_) | (with_reducible refine condW_split ?_ ?_ <;> intro hc <;> (try simp only [push_cast] at hc)) | (with_reducible refine guardW_split ?_ ?_ <;> intro hc <;> (try simp only [push_cast] at hc)) | omega | (with_reducible intro _)))
  rintro k ⟨hk, hr⟩
  refine W_T ?_
  (repeat' (first | (simp (disch := omega) only [push_cast, ↓z1, ↓z2, ↓z3, ↓z4, ↓z5, ↓z6, ↓z7, ↓z8, ↓z9, ↓z10, ↓z11, ↓z12, ↓z13, ↓z14, ↓z15, ↓z16, ↓z17, ↓z18, ↓z19, ↓z20, ↓z21, ↓z22, ↓z23, ↓z24, ↓z25, ↓z26, ↓z27, ↓z28, ↓z29, ↓z30, ↓z31, ↓z32, ↓z33, ↓reduceIte, reduceCtorEq, Nat.reduceEqDiff, Nat.reduceAdd, Nat.reduceSub, Nat.reduceMul, Nat.reduceLT, Nat.reduceLeDiff, Int.reduceEq, Int.reduceLT, Int.reduceLE, Int.reduceAdd, Int.reduceSub, Int.reduceNeg, Int.reduceToNat]) | (with_reducible refine And.intro ?_ ?_) | (with_reducible refine condW_split ?_ ?_ <;> intro hc <;> (try simp only [push_cast] at hc)) | (with_reducible refine guardW_split ?_ ?_ <;> intro hc <;> (try simp only [push_cast] at hc)) | omega | (with_reducible intro _)))
  all_goals try simp only [Bool.and_eq_true, Bool.and_eq_false_iff, decide_eq_true_eq, decide_eq_false_iff_not] at *
  all_goals first
    | (have hx : nth a k = nth b k := span_ext.2 ‹_›
       exact ⟨k + 1, by simp, ⟨by omega, by rw [hr, intsEq_sp (by omega) (by omega)]; simp [hx]⟩, by omega⟩)
    | (have hx : ¬ nth a k = nth b k := by rw [span_ext]; omega
       rw [eq_comm, decide_eq_false_iff_not, hr, intsEq_sp (by omega) (by omega)]; simp [hx]; done)
    | (rw [eq_comm, decide_eq_true_eq, hr, List.drop_of_length_le (by omega), List.drop_of_length_le (by omega)]; done)
theorem setsEq_at {l m : List (List Span)} {k : Nat} (h1 : k < l.length) (h2 : k < m.length) : l.drop k = m.drop k ↔ nth l k = nth m k ∧ l.drop (k + 1) = m.drop (k + 1) := by
  rw [drop_at h1, drop_at h2, List.cons.injEq]
theorem ref06_SameSets (a b : List (List Span)) (hl : a.length ≤ 1000000000000) (ha : ∀ l ∈ a, l.length ≤ 1000000000000) : PC Try.prog 18 [guardsV a, guardsV b] (.bool (decide (a = b))) := by
  refine pc_w' c_ref06_SameSets ?_
  unfold B_ref06_SameSets
  (repeat' (first | (simp (disch := omega) only [push_cast, ↓z1, ↓z2, ↓z3, ↓z4, ↓z5, ↓z6, ↓z7, ↓z8, ↓z9, ↓z10, ↓z11, ↓z12, ↓z13, ↓z14, ↓z15, ↓z16, ↓z17, ↓z18, ↓z19, ↓z20, ↓z21, ↓z22, ↓z23, ↓z24, ↓z25, ↓z26, ↓z27, ↓z28, ↓z29, ↓z30, ↓z31, ↓z32, ↓z33, ↓reduceIte, reduceCtorEq, Nat.reduceEqDiff, Nat.reduceAdd, Nat.reduceSub, Nat.reduceMul, Nat.reduceLT, Nat.reduceLeDiff, Int.reduceEq, Int.reduceLT, Int.reduceLE, Int.reduceAdd, Int.reduceSub, Int.reduceNeg, Int.reduceToNat]) | (with_reducible refine And.intro ?_ ?_) | (with_reducible refine condW_split ?_ ?_ <;> intro hc <;> (try simp only [push_cast] at hc)) | (with_reducible refine guardW_split ?_ ?_ <;> intro hc <;> (try simp only [push_cast] at hc)) | omega | (with_reducible intro _)))
  all_goals first
    | (have : ¬ a = b := fun h => by simp_all
       simp [this]; done)
    | skip
  refine LoopK_T (T_loopR (fun (k : Nat) => k ≤ a.length ∧ (a = b ↔ a.drop k = b.drop k)) (fun k => a.length - k)
    (fun k => [(0, guardsV a), (1, guardsV b), (5, .int .i64 k)]) (fun _ => []) (fun _ _ => []) 0 (by simp) ?_ ?_)
  · (repeat' (first | (simp (disch := omega) only [push_cast, ↓z1, ↓z2, ↓z3, ↓z4, ↓z5, ↓z6, ↓z7, ↓z8, ↓z9, ↓z10, ↓z11, ↓z12, ↓z13, ↓z14, ↓z15, ↓z16, ↓z17, ↓z18, ↓z19, ↓z20, ↓z21, ↓z22, ↓z23, ↓z24, ↓z25, ↓z26, ↓z27, ↓z28, ↓z29, ↓z30, ↓z31, ↓z32, ↓z33, ↓reduceIte, reduceCtorEq, Nat.reduceEqDiff, Nat.reduceAdd, Nat.reduceSub, Nat.reduceMul, Nat.reduceLT, Nat.reduceLeDiff, Int.reduceEq, Int.reduceLT, Int.reduceLE, Int.reduceAdd, Int.reduceSub, Int.reduceNeg, Int.reduceToNat]) | (with_reducible refine And.intro ?_ ?_) | (with_reducible refine condW_split ?_ ?_ <;> intro hc <;> (try simp only [push_cast] at hc)) | (with_reducible refine guardW_split ?_ ?_ <;> intro hc <;> (try simp only [push_cast] at hc)) | omega | (with_reducible intro _)))
  rintro k ⟨hk, hr⟩
  refine W_T ?_
  (repeat' (first | (simp (disch := omega) only [push_cast, ↓z1, ↓z2, ↓z3, ↓z4, ↓z5, ↓z6, ↓z7, ↓z8, ↓z9, ↓z10, ↓z11, ↓z12, ↓z13, ↓z14, ↓z15, ↓z16, ↓z17, ↓z18, ↓z19, ↓z20, ↓z21, ↓z22, ↓z23, ↓z24, ↓z25, ↓z26, ↓z27, ↓z28, ↓z29, ↓z30, ↓z31, ↓z32, ↓z33, ↓reduceIte, reduceCtorEq, Nat.reduceEqDiff, Nat.reduceAdd, Nat.reduceSub, Nat.reduceMul, Nat.reduceLT, Nat.reduceLeDiff, Int.reduceEq, Int.reduceLT, Int.reduceLE, Int.reduceAdd, Int.reduceSub, Int.reduceNeg, Int.reduceToNat]) | (with_reducible refine And.intro ?_ ?_) | (with_reducible refine condW_split ?_ ?_ <;> intro hc <;> (try simp only [push_cast] at hc)) | (with_reducible refine guardW_split ?_ ?_ <;> intro hc <;> (try simp only [push_cast] at hc)) | (with_reducible refine eK (ref01_Same (nth a k) (nth b k) (ha _ (nth_mem (by omega)))) ?_) | (with_reducible refine eQ (ref01_Same (nth a k) (nth b k) (ha _ (nth_mem (by omega)))) ?_) | (with_reducible refine eG (ref01_Same (nth a k) (nth b k) (ha _ (nth_mem (by omega)))) ?_) | ((with_reducible refine cK (ref01_Same (nth a k) (nth b k) (ha _ (nth_mem (by omega)))) ?_); (simp (disch := omega) only [push_cast, ↓z1, ↓z2, ↓z3, ↓z4, ↓z5, ↓z6, ↓z7, ↓z8, ↓z9, ↓z10, ↓z11, ↓z12, ↓z13, ↓z14, ↓z15, ↓z16, ↓z17, ↓z18, ↓z19, ↓z20, ↓z21, ↓z22, ↓z23, ↓z24, ↓z25, ↓z26, ↓z27, ↓z28, ↓z29, ↓z30, ↓z31, ↓z32, ↓z33, ↓reduceIte, reduceCtorEq, Nat.reduceEqDiff, Nat.reduceAdd, Nat.reduceSub, Nat.reduceMul, Nat.reduceLT, Nat.reduceLeDiff, Int.reduceEq, Int.reduceLT, Int.reduceLE, Int.reduceAdd, Int.reduceSub, Int.reduceNeg, Int.reduceToNat]); (fail_if_success (with_reducible change False))) | ((with_reducible refine cQ (ref01_Same (nth a k) (nth b k) (ha _ (nth_mem (by omega)))) ?_); (simp (disch := omega) only [push_cast, ↓z1, ↓z2, ↓z3, ↓z4, ↓z5, ↓z6, ↓z7, ↓z8, ↓z9, ↓z10, ↓z11, ↓z12, ↓z13, ↓z14, ↓z15, ↓z16, ↓z17, ↓z18, ↓z19, ↓z20, ↓z21, ↓z22, ↓z23, ↓z24, ↓z25, ↓z26, ↓z27, ↓z28, ↓z29, ↓z30, ↓z31, ↓z32, ↓z33, ↓reduceIte, reduceCtorEq, Nat.reduceEqDiff, Nat.reduceAdd, Nat.reduceSub, Nat.reduceMul, Nat.reduceLT, Nat.reduceLeDiff, Int.reduceEq, Int.reduceLT, Int.reduceLE, Int.reduceAdd, Int.reduceSub, Int.reduceNeg, Int.reduceToNat]); (fail_if_success (with_reducible change False))) | ((with_reducible refine cG (ref01_Same (nth a k) (nth b k) (ha _ (nth_mem (by omega)))) ?_); (simp (disch := omega) only [push_cast, ↓z1, ↓z2, ↓z3, ↓z4, ↓z5, ↓z6, ↓z7, ↓z8, ↓z9, ↓z10, ↓z11, ↓z12, ↓z13, ↓z14, ↓z15, ↓z16, ↓z17, ↓z18, ↓z19, ↓z20, ↓z21, ↓z22, ↓z23, ↓z24, ↓z25, ↓z26, ↓z27, ↓z28, ↓z29, ↓z30, ↓z31, ↓z32, ↓z33, ↓reduceIte, reduceCtorEq, Nat.reduceEqDiff, Nat.reduceAdd, Nat.reduceSub, Nat.reduceMul, Nat.reduceLT, Nat.reduceLeDiff, Int.reduceEq, Int.reduceLT, Int.reduceLE, Int.reduceAdd, Int.reduceSub, Int.reduceNeg, Int.reduceToNat]); (fail_if_success (with_reducible change False))) | omega | (with_reducible intro _)))
  all_goals first
    | (have hx : nth a k = nth b k := by simpa using hc
       exact ⟨k + 1, by simp, ⟨by omega, by rw [hr, setsEq_at (by omega) (by omega)]; simp [hx]⟩, by omega⟩)
    | (have hx : ¬ nth a k = nth b k := by simpa using hc
       rw [eq_comm, decide_eq_false_iff_not, hr, setsEq_at (by omega) (by omega)]; simp [hx]; done)
    | (rw [eq_comm, decide_eq_true_eq, hr, List.drop_of_length_le (by omega), List.drop_of_length_le (by omega)]; done)
    | trace_state
/-- A group, where there is one already. -/
def srcO : AV → List Src
  | .ref g _ _ _ => [.grp g]
  | _ => []
theorem srcO_ref {g v o n : Nat} : srcO (.ref g v o n) = [.grp g] := rfl
theorem srcO_full {w : Nat} {xs : List AV} : srcO (.full w xs) = [] := rfl
structure Pair where
  fst : Int
  snd : Int
  deriving DecidableEq, Inhabited
abbrev pairV (p : Pair) : AV := .agg [.int .i64 p.fst, .int .i64 p.snd]
theorem pure_pairs (l : List Pair) : pureL (l.map pairV) = true := pure_map (fun _ => rfl) l
theorem pure_rowsV (l : List (List (List Span))) : pureL (l.map rowV) = true := pure_map (fun s => by simp only [rowV, AV.pure, pure_guards]) l
def firsts : List Pair := [⟨0, 127⟩, ⟨194, 223⟩, ⟨224, 224⟩, ⟨225, 236⟩, ⟨237, 237⟩, ⟨238, 239⟩, ⟨240, 240⟩, ⟨241, 243⟩, ⟨244, 244⟩]
def seconds : List Pair := [⟨0, 0⟩, ⟨128, 191⟩, ⟨160, 191⟩, ⟨128, 191⟩, ⟨128, 159⟩, ⟨128, 191⟩, ⟨144, 191⟩, ⟨128, 191⟩, ⟨128, 143⟩]
def sizes : List Int := [1, 2, 3, 3, 3, 3, 4, 4, 4]
theorem row_first : ∀ i, i < 9 → (nth tableL i).take 1 = [[⟨(nth firsts i).fst, (nth firsts i).snd⟩]] ∧ nth sizes i = ((nth tableL i).length : Int) ∧ 1 ≤ (nth tableL i).length := by decide
theorem row_second : ∀ i, i < 9 → 2 ≤ (nth tableL i).length → (nth tableL i).take 2 = (nth tableL i).take 1 ++ [[⟨(nth seconds i).fst, (nth seconds i).snd⟩]] := by decide
theorem row_more : ∀ i, i < 9 → ∀ k, k < 4 → (2 ≤ k ∧ k < (nth tableL i).length → (nth tableL i).take (k + 1) = (nth tableL i).take k ++ [[⟨128, 191⟩]]) := by decide
theorem row_four : ∀ i, i < 9 → (nth tableL i).length ≤ 4 := by decide
theorem row_end : ∀ i, i < 9 → tableL.take (i + 1) = tableL.take i ++ [nth tableL i] := by decide
theorem tab_len : ∀ i, i < 10 → (tableL.take i).length = i := by decide
theorem row_len2 (i k : Nat) (h : k ≤ (nth tableL i).length) : ((nth tableL i).take k).length = k := by simp; omega
theorem leSL_snoc {l : List Grp} {x y : AV} (h : leS l x y) : ∀ xs : List AV, leSL l (xs ++ [x]) (xs ++ [y])
  | [] => ⟨h, rfl⟩
  | z :: xs => ⟨leS_refl l z, leSL_snoc h xs⟩
theorem ref10_Rows : PC Try.prog 17 [] (tableV tableL) := by
  refine pc_w' c_ref10_Rows ?_
  unfold B_ref10_Rows
  (repeat' (first | (simp (disch := omega) only [push_cast, ↓z1, ↓z2, ↓z3, ↓z4, ↓z5, ↓z6, ↓z7, ↓z8, ↓z9, ↓z10, ↓z11, ↓z12, ↓z13, ↓z14, ↓z15, ↓z16, ↓z17, ↓z18, ↓z19, ↓z20, ↓z21, ↓z22, ↓z23, ↓z24, ↓z25, ↓z26, ↓z27, ↓z28, ↓z29, ↓z30, ↓z31, ↓z32, ↓z33, ↓reduceIte, reduceCtorEq, Nat.reduceEqDiff, Nat.reduceAdd, Nat.reduceSub, Nat.reduceMul, Nat.reduceLT, Nat.reduceLeDiff, Int.reduceEq, Int.reduceLT, Int.reduceLE, Int.reduceAdd, Int.reduceSub, Int.reduceNeg, Int.reduceToNat]) | (with_reducible refine And.intro ?_ ?_) | (with_reducible refine condW_split ?_ ?_ <;> intro hc <;> (try simp only [push_cast] at hc)) | (with_reducible refine guardW_split ?_ ?_ <;> intro hc <;> (try simp only [push_cast] at hc)) | omega | (with_reducible intro _)))
  refine LoopK_T (T_loopR (fun (i : Nat) => i ≤ 9) (fun i => 9 - i) (fun i => [(1, .lst 2 (firsts.map pairV)), (2, .lst 2 (seconds.map pairV)), (3, intsV sizes), (4, .ref 0 1 0 i), (5, .int .i64 i)])
    (fun i => [⟨1, 1, false, (tableL.take i).map rowV⟩]) (fun env _ => [srcOf 1 (env 4)]) 0 (by simp) ?_ ?_)
  · (repeat' (first | (simp (disch := omega) only [push_cast, ↓z1, ↓z2, ↓z3, ↓z4, ↓z5, ↓z6, ↓z7, ↓z8, ↓z9, ↓z10, ↓z11, ↓z12, ↓z13, ↓z14, ↓z15, ↓z16, ↓z17, ↓z18, ↓z19, ↓z20, ↓z21, ↓z22, ↓z23, ↓z24, ↓z25, ↓z26, ↓z27, ↓z28, ↓z29, ↓z30, ↓z31, ↓z32, ↓z33, ↓reduceIte, reduceCtorEq, Nat.reduceEqDiff, Nat.reduceAdd, Nat.reduceSub, Nat.reduceMul, Nat.reduceLT, Nat.reduceLeDiff, Int.reduceEq, Int.reduceLT, Int.reduceLE, Int.reduceAdd, Int.reduceSub, Int.reduceNeg, Int.reduceToNat, pure_pairs]) | (with_reducible refine And.intro ?_ ?_) | (with_reducible refine condW_split ?_ ?_ <;> intro hc <;> (try simp only [push_cast] at hc)) | (with_reducible refine guardW_split ?_ ?_ <;> intro hc <;> (try simp only [push_cast] at hc)) | omega | (with_reducible intro _)))
    all_goals (first | rfl | trace_state)
  intro i hi
  have htl := tab_len i (by omega)
  have hf9 : firsts.length = 9 := rfl
  have hs9 : seconds.length = 9 := rfl
  have hz9 : sizes.length = 9 := rfl
  refine W_T ?_
  (repeat' (first | (simp (disch := omega) only [push_cast, ↓z1, ↓z2, ↓z3, ↓z4, ↓z5, ↓z6, ↓z7, ↓z8, ↓z9, ↓z10, ↓z11, ↓z12, ↓z13, ↓z14, ↓z15, ↓z16, ↓z17, ↓z18, ↓z19, ↓z20, ↓z21, ↓z22, ↓z23, ↓z24, ↓z25, ↓z26, ↓z27, ↓z28, ↓z29, ↓z30, ↓z31, ↓z32, ↓z33, ↓reduceIte, reduceCtorEq, Nat.reduceEqDiff, Nat.reduceAdd, Nat.reduceSub, Nat.reduceMul, Nat.reduceLT, Nat.reduceLeDiff, Int.reduceEq, Int.reduceLT, Int.reduceLE, Int.reduceAdd, Int.reduceSub, Int.reduceNeg, Int.reduceToNat, hf9, hs9, hz9, pure_pairs, pure_rowsV, pure_guards]) | (with_reducible refine And.intro ?_ ?_) | (with_reducible refine condW_split ?_ ?_ <;> intro hc <;> (try simp only [push_cast] at hc)) | (with_reducible refine guardW_split ?_ ?_ <;> intro hc <;> (try simp only [push_cast] at hc)) | omega | (with_reducible intro _)))
  · obtain ⟨h1, h2, h3⟩ := row_first i (by omega)
    have h4 := row_four i (by omega)
    refine LoopK_T (T_loopR (fun (k : Nat) => k + 1 ≤ (nth tableL i).length) (fun k => (nth tableL i).length - k) (fun k => [(1, .lst 2 (firsts.map pairV)), (2, .lst 2 (seconds.map pairV)), (3, intsV sizes), (4, .ref 0 1 0 i), (5, .int .i64 i), (6, match k with | 0 => .full 1 [.full 2 [.agg [.int .i64 (nth firsts i).fst, .int .i64 (nth firsts i).snd]]] | k + 1 => .ref 1 1 0 (k + 2)), (7, .int .i64 (k + 1))])
      (fun k => ⟨1, 1, false, (tableL.take i).map rowV⟩ :: match k with | 0 => [] | k + 1 => [⟨1, 1, false, ((nth tableL i).take (k + 2)).map spansV⟩]) (fun env _ => srcOf 1 (env 4) :: srcO (env 6)) 0 (by simp; omega) ?_ ?_)
    · (repeat' (first | (simp (disch := omega) only [push_cast, ↓z1, ↓z2, ↓z3, ↓z4, ↓z5, ↓z6, ↓z7, ↓z8, ↓z9, ↓z10, ↓z11, ↓z12, ↓z13, ↓z14, ↓z15, ↓z16, ↓z17, ↓z18, ↓z19, ↓z20, ↓z21, ↓z22, ↓z23, ↓z24, ↓z25, ↓z26, ↓z27, ↓z28, ↓z29, ↓z30, ↓z31, ↓z32, ↓z33, ↓reduceIte, reduceCtorEq, Nat.reduceEqDiff, Nat.reduceAdd, Nat.reduceSub, Nat.reduceMul, Nat.reduceLT, Nat.reduceLeDiff, Int.reduceEq, Int.reduceLT, Int.reduceLE, Int.reduceAdd, Int.reduceSub, Int.reduceNeg, Int.reduceToNat, pure_pairs, h1, srcO_full, srcO_ref, pure_rowsV, pure_guards]) | (with_reducible refine And.intro ?_ ?_) | (with_reducible refine condW_split ?_ ?_ <;> intro hc <;> (try simp only [push_cast] at hc)) | (with_reducible refine guardW_split ?_ ?_ <;> intro hc <;> (try simp only [push_cast] at hc)) | omega | (with_reducible intro _)))
      all_goals (first | rfl | trace_state)
    rintro k hk2
    have hkl := row_len2 i (k + 1) hk2
    have hrow : (k + 1 = (nth tableL i).length) → (nth tableL i).take (k + 1) = nth tableL i := fun h => List.take_of_length_le (by omega)
    cases k with
    | zero =>
      refine W_T ?_
      (repeat' (first | (simp (disch := omega) only [push_cast, ↓z1, ↓z2, ↓z3, ↓z4, ↓z5, ↓z6, ↓z7, ↓z8, ↓z9, ↓z10, ↓z11, ↓z12, ↓z13, ↓z14, ↓z15, ↓z16, ↓z17, ↓z18, ↓z19, ↓z20, ↓z21, ↓z22, ↓z23, ↓z24, ↓z25, ↓z26, ↓z27, ↓z28, ↓z29, ↓z30, ↓z31, ↓z32, ↓z33, ↓reduceIte, reduceCtorEq, Nat.reduceEqDiff, Nat.reduceAdd, Nat.reduceSub, Nat.reduceMul, Nat.reduceLT, Nat.reduceLeDiff, Int.reduceEq, Int.reduceLT, Int.reduceLE, Int.reduceAdd, Int.reduceSub, Int.reduceNeg, Int.reduceToNat, hf9, hs9, hz9, pure_pairs, h2, srcO_full, srcO_ref, pure_rowsV, pure_guards, hkl]) | (with_reducible refine And.intro ?_ ?_) | (with_reducible refine condW_split ?_ ?_ <;> intro hc <;> (try simp only [push_cast] at hc)) | (with_reducible refine guardW_split ?_ ?_ <;> intro hc <;> (try simp only [push_cast] at hc)) | omega | (with_reducible intro _)))
      · have e := row_second i (by omega) (by omega)
        rw [h1] at e
        refine ⟨1, ?_⟩
        dsimp only
        rw [show (0 + 2 : Nat) = 2 from rfl, e]
        (repeat' (first | (simp (disch := omega) only [push_cast, ↓z1, ↓z2, ↓z3, ↓z4, ↓z5, ↓z6, ↓z7, ↓z8, ↓z9, ↓z10, ↓z11, ↓z12, ↓z13, ↓z14, ↓z15, ↓z16, ↓z17, ↓z18, ↓z19, ↓z20, ↓z21, ↓z22, ↓z23, ↓z24, ↓z25, ↓z26, ↓z27, ↓z28, ↓z29, ↓z30, ↓z31, ↓z32, ↓z33, ↓reduceIte, reduceCtorEq, Nat.reduceEqDiff, Nat.reduceAdd, Nat.reduceSub, Nat.reduceMul, Nat.reduceLT, Nat.reduceLeDiff, Int.reduceEq, Int.reduceLT, Int.reduceLE, Int.reduceAdd, Int.reduceSub, Int.reduceNeg, Int.reduceToNat, hf9, hs9, hz9, pure_pairs, h2, srcO_full, srcO_ref, pure_rowsV, pure_guards, pure_spans, spansV, spanV]) | (with_reducible refine And.intro ?_ ?_) | (with_reducible refine condW_split ?_ ?_ <;> intro hc <;> (try simp only [push_cast] at hc)) | (with_reducible refine guardW_split ?_ ?_ <;> intro hc <;> (try simp only [push_cast] at hc)) | omega | (with_reducible intro _)))
        all_goals trace_state
      · have e := hrow (by omega)
        rw [h1] at e
        refine ⟨i + 1, ?_⟩
        rw [row_end i (by omega), ← e]
        (repeat' (first | (simp (disch := omega) only [push_cast, ↓z1, ↓z2, ↓z3, ↓z4, ↓z5, ↓z6, ↓z7, ↓z8, ↓z9, ↓z10, ↓z11, ↓z12, ↓z13, ↓z14, ↓z15, ↓z16, ↓z17, ↓z18, ↓z19, ↓z20, ↓z21, ↓z22, ↓z23, ↓z24, ↓z25, ↓z26, ↓z27, ↓z28, ↓z29, ↓z30, ↓z31, ↓z32, ↓z33, ↓reduceIte, reduceCtorEq, Nat.reduceEqDiff, Nat.reduceAdd, Nat.reduceSub, Nat.reduceMul, Nat.reduceLT, Nat.reduceLeDiff, Int.reduceEq, Int.reduceLT, Int.reduceLE, Int.reduceAdd, Int.reduceSub, Int.reduceNeg, Int.reduceToNat, hf9, hs9, hz9, pure_pairs, h2, srcO_full, srcO_ref, pure_rowsV, pure_guards, pure_spans, spansV, spanV, rowV]) | (with_reducible refine And.intro ?_ ?_) | (with_reducible refine condW_split ?_ ?_ <;> intro hc <;> (try simp only [push_cast] at hc)) | (with_reducible refine guardW_split ?_ ?_ <;> intro hc <;> (try simp only [push_cast] at hc)) | omega | (with_reducible intro _)))
        refine leSL_snoc ?_ _
        simp [leS, leSL, pureL, AV.pure]
    | succ k =>
      refine W_T ?_
      (repeat' (first | (simp (disch := omega) only [push_cast, ↓z1, ↓z2, ↓z3, ↓z4, ↓z5, ↓z6, ↓z7, ↓z8, ↓z9, ↓z10, ↓z11, ↓z12, ↓z13, ↓z14, ↓z15, ↓z16, ↓z17, ↓z18, ↓z19, ↓z20, ↓z21, ↓z22, ↓z23, ↓z24, ↓z25, ↓z26, ↓z27, ↓z28, ↓z29, ↓z30, ↓z31, ↓z32, ↓z33, ↓reduceIte, reduceCtorEq, Nat.reduceEqDiff, Nat.reduceAdd, Nat.reduceSub, Nat.reduceMul, Nat.reduceLT, Nat.reduceLeDiff, Int.reduceEq, Int.reduceLT, Int.reduceLE, Int.reduceAdd, Int.reduceSub, Int.reduceNeg, Int.reduceToNat, hf9, hs9, hz9, pure_pairs, h2, srcO_full, srcO_ref, pure_rowsV, pure_guards, hkl]) | (with_reducible refine And.intro ?_ ?_) | (with_reducible refine condW_split ?_ ?_ <;> intro hc <;> (try simp only [push_cast] at hc)) | (with_reducible refine guardW_split ?_ ?_ <;> intro hc <;> (try simp only [push_cast] at hc)) | omega | (with_reducible intro _)))
      · have e := row_more i (by omega) (k + 2) (by omega) ⟨by omega, by omega⟩
        refine ⟨k + 2, ?_⟩
        dsimp only
        rw [show k + 1 + 2 = k + 2 + 1 from rfl, e]
        (repeat' (first | (simp (disch := omega) only [push_cast, ↓z1, ↓z2, ↓z3, ↓z4, ↓z5, ↓z6, ↓z7, ↓z8, ↓z9, ↓z10, ↓z11, ↓z12, ↓z13, ↓z14, ↓z15, ↓z16, ↓z17, ↓z18, ↓z19, ↓z20, ↓z21, ↓z22, ↓z23, ↓z24, ↓z25, ↓z26, ↓z27, ↓z28, ↓z29, ↓z30, ↓z31, ↓z32, ↓z33, ↓reduceIte, reduceCtorEq, Nat.reduceEqDiff, Nat.reduceAdd, Nat.reduceSub, Nat.reduceMul, Nat.reduceLT, Nat.reduceLeDiff, Int.reduceEq, Int.reduceLT, Int.reduceLE, Int.reduceAdd, Int.reduceSub, Int.reduceNeg, Int.reduceToNat, hf9, hs9, hz9, pure_pairs, h2, srcO_full, srcO_ref, pure_rowsV, pure_guards, pure_spans, spansV, spanV]) | (with_reducible refine And.intro ?_ ?_) | (with_reducible refine condW_split ?_ ?_ <;> intro hc <;> (try simp only [push_cast] at hc)) | (with_reducible refine guardW_split ?_ ?_ <;> intro hc <;> (try simp only [push_cast] at hc)) | omega | (with_reducible intro _)))
        all_goals trace_state
      · have e := hrow (by omega)
        refine ⟨i + 1, ?_⟩
        rw [row_end i (by omega), show k + 2 = k + 1 + 1 from rfl, e]
        (repeat' (first | (simp (disch := omega) only [push_cast, ↓z1, ↓z2, ↓z3, ↓z4, ↓z5, ↓z6, ↓z7, ↓z8, ↓z9, ↓z10, ↓z11, ↓z12, ↓z13, ↓z14, ↓z15, ↓z16, ↓z17, ↓z18, ↓z19, ↓z20, ↓z21, ↓z22, ↓z23, ↓z24, ↓z25, ↓z26, ↓z27, ↓z28, ↓z29, ↓z30, ↓z31, ↓z32, ↓z33, ↓reduceIte, reduceCtorEq, Nat.reduceEqDiff, Nat.reduceAdd, Nat.reduceSub, Nat.reduceMul, Nat.reduceLT, Nat.reduceLeDiff, Int.reduceEq, Int.reduceLT, Int.reduceLE, Int.reduceAdd, Int.reduceSub, Int.reduceNeg, Int.reduceToNat, hf9, hs9, hz9, pure_pairs, h2, srcO_full, srcO_ref, pure_rowsV, pure_guards, pure_spans, rowV]) | (with_reducible refine And.intro ?_ ?_) | (with_reducible refine condW_split ?_ ?_ <;> intro hc <;> (try simp only [push_cast] at hc)) | (with_reducible refine guardW_split ?_ ?_ <;> intro hc <;> (try simp only [push_cast] at hc)) | omega | (with_reducible intro _)))
        rw [show k + 2 = k + 1 + 1 from rfl, e]
        exact leSL_refl _ _
  · obtain rfl : i = 9 := by omega
    rfl
end Go.Proofs.Ytdmjhlofphhldaa
