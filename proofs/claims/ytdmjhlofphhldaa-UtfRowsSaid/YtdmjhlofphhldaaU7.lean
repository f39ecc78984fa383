/-
  Layer 10, plain: what stands at a place, told case by case; a scalar's bytes are scanned as it; all that is scanned is a scalar.
-/
import Derived.Test.YtdmjhlofphhldaaU6
set_option linter.unusedSimpArgs false
set_option linter.unusedVariables false
namespace Go.Proofs.Ytdmjhlofphhldaa
open Abs
def contB (x : Int) : Bool := decide (128 ≤ x ∧ x ≤ 191)
instance (a b : Int) : Decidable (pairOk a b) := by unfold pairOk; exact inferInstance
/-- What stands ahead, case by case. -/
def scanX : List Int → Int × Nat × Bool
  | [] => (65533, 1, false)
  | a :: r => if a ≤ 127 then (a, 1, true) else if a < 194 ∨ 244 < a then (65533, 1, false) else
    match r with
    | [] => (65533, 1, false)
    | b :: r => if a ≤ 223 then (if contB b then (a % 32 * 64 + b % 64, 2, true) else (65533, 1, false)) else
      if ¬ pairOk a b then (65533, 1, false) else
      match r with
      | [] => (65533, 2, false)
      | c :: r => if ¬ contB c then (65533, 2, false) else if a ≤ 239 then ((a % 16 * 64 + b % 64) * 64 + c % 64, 3, true) else
        match r with
        | [] => (65533, 3, false)
        | d :: _ => if contB d then (((a % 8 * 64 + b % 64) * 64 + c % 64) * 64 + d % 64, 4, true) else (65533, 3, false)
/-- A row's answer at its first bytes. -/
theorem row_no {lo hi : Int} {r : List (List Span)} {a : Int} {b : List Int} (h : a < lo ∨ hi < a) : matchN ([⟨lo, hi⟩] :: r) (a :: b) = 0 := by
  rw [matchN, if_neg (by rw [has_no h]; simp)]
theorem row_go {lo hi : Int} {r : List (List Span)} {a : Int} {b : List Int} (h : lo ≤ a ∧ a ≤ hi ∧ -1073741824 ≤ a ∧ a ≤ 1073741824) : matchN ([⟨lo, hi⟩] :: r) (a :: b) = matchN r b + 1 := by
  rw [matchN, if_pos (has_yes h)]
theorem row_nil {s : List (List Span)} : matchN s [] = 0 := by cases s <;> rw [matchN] <;> simp
theorem row_out {b : List Int} : matchN [] b = 0 := by rw [matchN] <;> simp
theorem cont_no {x : Int} (h : contB x = false) : x < 128 ∨ 191 < x := by simp [contB] at h; omega
theorem cont_yes {x : Int} (h : contB x = true) : 128 ≤ x ∧ x ≤ 191 := by simpa [contB] using h
theorem mx10 : max 1 0 = 1 := rfl
theorem mx11 : max 1 1 = 1 := rfl
theorem mx12 : max 1 2 = 2 := rfl
theorem mx13 : max 1 3 = 3 := rfl
theorem mx20 : max 2 0 = 2 := rfl
theorem mx21 : max 2 1 = 2 := rfl
theorem mx22 : max 2 2 = 2 := rfl
theorem mx23 : max 2 3 = 3 := rfl
theorem mx30 : max 3 0 = 3 := rfl
theorem mx31 : max 3 1 = 3 := rfl
theorem mx32 : max 3 2 = 3 := rfl
theorem mx33 : max 3 3 = 3 := rfl
theorem scan_x {a : Int} {r : List Int} (hb : ∀ x ∈ a :: r, 0 ≤ x ∧ x ≤ 255) : scanR tableL (a :: r) 1 = scanX (a :: r) := by
  have ha := hb a (by simp)
  have hh : a ≤ 127 ∨ (128 ≤ a ∧ (a < 194 ∨ 244 < a)) ∨ (194 ≤ a ∧ a ≤ 223) ∨ a = 224 ∨ (225 ≤ a ∧ a ≤ 236) ∨ a = 237 ∨ (238 ≤ a ∧ a ≤ 239) ∨ a = 240 ∨ (241 ≤ a ∧ a ≤ 243) ∨ a = 244 := by omega
  rcases hh with h | h | h | rfl | h | rfl | h | rfl | h | rfl
  · (simp (disch := omega) only [tableL, rowL, List.replicate, List.cons_append, List.nil_append, scanR, row_no, row_go, row_nil, row_out, if_pos, if_neg, Nat.reduceAdd, Nat.reduceEqDiff, Nat.zero_add, Nat.max_self, Nat.zero_ne_one, List.length_cons, List.length_nil, List.take_succ_cons, List.take_zero, valueI, reduceCtorEq, ↓reduceIte, mx10, mx11, mx12, mx13, mx20, mx21, mx22, mx23, mx30, mx31, mx32, mx33, not_false_eq_true, not_true_eq_false, scanX, Bool.false_eq_true]; try rfl)
  · (simp (disch := omega) only [tableL, rowL, List.replicate, List.cons_append, List.nil_append, scanR, row_no, row_go, row_nil, row_out, if_pos, if_neg, Nat.reduceAdd, Nat.reduceEqDiff, Nat.zero_add, Nat.max_self, Nat.zero_ne_one, List.length_cons, List.length_nil, List.take_succ_cons, List.take_zero, valueI, reduceCtorEq, ↓reduceIte, mx10, mx11, mx12, mx13, mx20, mx21, mx22, mx23, mx30, mx31, mx32, mx33, not_false_eq_true, not_true_eq_false, scanX, Bool.false_eq_true]; try rfl)
  · cases r with
    | nil => (simp (disch := omega) only [tableL, rowL, List.replicate, List.cons_append, List.nil_append, scanR, row_no, row_go, row_nil, row_out, if_pos, if_neg, Nat.reduceAdd, Nat.reduceEqDiff, Nat.zero_add, Nat.max_self, Nat.zero_ne_one, List.length_cons, List.length_nil, List.take_succ_cons, List.take_zero, valueI, reduceCtorEq, ↓reduceIte, mx10, mx11, mx12, mx13, mx20, mx21, mx22, mx23, mx30, mx31, mx32, mx33, not_false_eq_true, not_true_eq_false, scanX, Bool.false_eq_true]; try rfl)
    | cons b r =>
      have hb2 := hb b (by simp)
      cases h2 : contB b with
      | false => have := cont_no h2; (simp (disch := omega) only [tableL, rowL, List.replicate, List.cons_append, List.nil_append, scanR, row_no, row_go, row_nil, row_out, if_pos, if_neg, Nat.reduceAdd, Nat.reduceEqDiff, Nat.zero_add, Nat.max_self, Nat.zero_ne_one, List.length_cons, List.length_nil, List.take_succ_cons, List.take_zero, valueI, reduceCtorEq, ↓reduceIte, mx10, mx11, mx12, mx13, mx20, mx21, mx22, mx23, mx30, mx31, mx32, mx33, not_false_eq_true, not_true_eq_false, h2, scanX, Bool.false_eq_true]; try rfl)
      | true => have := cont_yes h2; (simp (disch := omega) only [tableL, rowL, List.replicate, List.cons_append, List.nil_append, scanR, row_no, row_go, row_nil, row_out, if_pos, if_neg, Nat.reduceAdd, Nat.reduceEqDiff, Nat.zero_add, Nat.max_self, Nat.zero_ne_one, List.length_cons, List.length_nil, List.take_succ_cons, List.take_zero, valueI, reduceCtorEq, ↓reduceIte, mx10, mx11, mx12, mx13, mx20, mx21, mx22, mx23, mx30, mx31, mx32, mx33, not_false_eq_true, not_true_eq_false, h2, scanX, Bool.false_eq_true]; try rfl)
  · cases r with
    | nil => (simp (disch := omega) only [tableL, rowL, List.replicate, List.cons_append, List.nil_append, scanR, row_no, row_go, row_nil, row_out, if_pos, if_neg, Nat.reduceAdd, Nat.reduceEqDiff, Nat.zero_add, Nat.max_self, Nat.zero_ne_one, List.length_cons, List.length_nil, List.take_succ_cons, List.take_zero, valueI, reduceCtorEq, ↓reduceIte, mx10, mx11, mx12, mx13, mx20, mx21, mx22, mx23, mx30, mx31, mx32, mx33, not_false_eq_true, not_true_eq_false, scanX, Bool.false_eq_true]; try rfl)
    | cons b r =>
      have hb2 := hb b (by simp)
      by_cases hp : pairOk 224 b
      · have hp2 := hp
        unfold pairOk at hp2
        have hp3 : 160 ≤ b ∧ b ≤ 191 := by omega
        cases r with
        | nil => (simp (disch := omega) only [tableL, rowL, List.replicate, List.cons_append, List.nil_append, scanR, row_no, row_go, row_nil, row_out, if_pos, if_neg, Nat.reduceAdd, Nat.reduceEqDiff, Nat.zero_add, Nat.max_self, Nat.zero_ne_one, List.length_cons, List.length_nil, List.take_succ_cons, List.take_zero, valueI, reduceCtorEq, ↓reduceIte, mx10, mx11, mx12, mx13, mx20, mx21, mx22, mx23, mx30, mx31, mx32, mx33, not_false_eq_true, not_true_eq_false, hp, scanX, Bool.false_eq_true]; try rfl)
        | cons c r =>
          have hb3 := hb c (by simp)
          cases h3 : contB c with
          | false => have := cont_no h3; (simp (disch := omega) only [tableL, rowL, List.replicate, List.cons_append, List.nil_append, scanR, row_no, row_go, row_nil, row_out, if_pos, if_neg, Nat.reduceAdd, Nat.reduceEqDiff, Nat.zero_add, Nat.max_self, Nat.zero_ne_one, List.length_cons, List.length_nil, List.take_succ_cons, List.take_zero, valueI, reduceCtorEq, ↓reduceIte, mx10, mx11, mx12, mx13, mx20, mx21, mx22, mx23, mx30, mx31, mx32, mx33, not_false_eq_true, not_true_eq_false, hp, h3, scanX, Bool.false_eq_true]; try rfl)
          | true => have := cont_yes h3; (simp (disch := omega) only [tableL, rowL, List.replicate, List.cons_append, List.nil_append, scanR, row_no, row_go, row_nil, row_out, if_pos, if_neg, Nat.reduceAdd, Nat.reduceEqDiff, Nat.zero_add, Nat.max_self, Nat.zero_ne_one, List.length_cons, List.length_nil, List.take_succ_cons, List.take_zero, valueI, reduceCtorEq, ↓reduceIte, mx10, mx11, mx12, mx13, mx20, mx21, mx22, mx23, mx30, mx31, mx32, mx33, not_false_eq_true, not_true_eq_false, hp, h3, scanX, Bool.false_eq_true]; try rfl)
      · have hp3 : b < 160 ∨ 191 < b := by
          by_cases hq : b < 160 ∨ 191 < b
          · exact hq
          · exact absurd (by unfold pairOk; omega) hp
        rcases hp3 with hp3 | hp3
        all_goals (simp (disch := omega) only [tableL, rowL, List.replicate, List.cons_append, List.nil_append, scanR, row_no, row_go, row_nil, row_out, if_pos, if_neg, Nat.reduceAdd, Nat.reduceEqDiff, Nat.zero_add, Nat.max_self, Nat.zero_ne_one, List.length_cons, List.length_nil, List.take_succ_cons, List.take_zero, valueI, reduceCtorEq, ↓reduceIte, mx10, mx11, mx12, mx13, mx20, mx21, mx22, mx23, mx30, mx31, mx32, mx33, not_false_eq_true, not_true_eq_false, hp, scanX, Bool.false_eq_true]; try rfl)
  · cases r with
    | nil => (simp (disch := omega) only [tableL, rowL, List.replicate, List.cons_append, List.nil_append, scanR, row_no, row_go, row_nil, row_out, if_pos, if_neg, Nat.reduceAdd, Nat.reduceEqDiff, Nat.zero_add, Nat.max_self, Nat.zero_ne_one, List.length_cons, List.length_nil, List.take_succ_cons, List.take_zero, valueI, reduceCtorEq, ↓reduceIte, mx10, mx11, mx12, mx13, mx20, mx21, mx22, mx23, mx30, mx31, mx32, mx33, not_false_eq_true, not_true_eq_false, scanX, Bool.false_eq_true]; try rfl)
    | cons b r =>
      have hb2 := hb b (by simp)
      by_cases hp : pairOk a b
      · have hp2 := hp
        unfold pairOk at hp2
        have hp3 : 128 ≤ b ∧ b ≤ 191 := by omega
        cases r with
        | nil => (simp (disch := omega) only [tableL, rowL, List.replicate, List.cons_append, List.nil_append, scanR, row_no, row_go, row_nil, row_out, if_pos, if_neg, Nat.reduceAdd, Nat.reduceEqDiff, Nat.zero_add, Nat.max_self, Nat.zero_ne_one, List.length_cons, List.length_nil, List.take_succ_cons, List.take_zero, valueI, reduceCtorEq, ↓reduceIte, mx10, mx11, mx12, mx13, mx20, mx21, mx22, mx23, mx30, mx31, mx32, mx33, not_false_eq_true, not_true_eq_false, hp, scanX, Bool.false_eq_true]; try rfl)
        | cons c r =>
          have hb3 := hb c (by simp)
          cases h3 : contB c with
          | false => have := cont_no h3; (simp (disch := omega) only [tableL, rowL, List.replicate, List.cons_append, List.nil_append, scanR, row_no, row_go, row_nil, row_out, if_pos, if_neg, Nat.reduceAdd, Nat.reduceEqDiff, Nat.zero_add, Nat.max_self, Nat.zero_ne_one, List.length_cons, List.length_nil, List.take_succ_cons, List.take_zero, valueI, reduceCtorEq, ↓reduceIte, mx10, mx11, mx12, mx13, mx20, mx21, mx22, mx23, mx30, mx31, mx32, mx33, not_false_eq_true, not_true_eq_false, hp, h3, scanX, Bool.false_eq_true]; try rfl)
          | true => have := cont_yes h3; (simp (disch := omega) only [tableL, rowL, List.replicate, List.cons_append, List.nil_append, scanR, row_no, row_go, row_nil, row_out, if_pos, if_neg, Nat.reduceAdd, Nat.reduceEqDiff, Nat.zero_add, Nat.max_self, Nat.zero_ne_one, List.length_cons, List.length_nil, List.take_succ_cons, List.take_zero, valueI, reduceCtorEq, ↓reduceIte, mx10, mx11, mx12, mx13, mx20, mx21, mx22, mx23, mx30, mx31, mx32, mx33, not_false_eq_true, not_true_eq_false, hp, h3, scanX, Bool.false_eq_true]; try rfl)
      · have hp3 : b < 128 ∨ 191 < b := by
          by_cases hq : b < 128 ∨ 191 < b
          · exact hq
          · exact absurd (by unfold pairOk; omega) hp
        rcases hp3 with hp3 | hp3
        all_goals (simp (disch := omega) only [tableL, rowL, List.replicate, List.cons_append, List.nil_append, scanR, row_no, row_go, row_nil, row_out, if_pos, if_neg, Nat.reduceAdd, Nat.reduceEqDiff, Nat.zero_add, Nat.max_self, Nat.zero_ne_one, List.length_cons, List.length_nil, List.take_succ_cons, List.take_zero, valueI, reduceCtorEq, ↓reduceIte, mx10, mx11, mx12, mx13, mx20, mx21, mx22, mx23, mx30, mx31, mx32, mx33, not_false_eq_true, not_true_eq_false, hp, scanX, Bool.false_eq_true]; try rfl)
  · cases r with
    | nil => (simp (disch := omega) only [tableL, rowL, List.replicate, List.cons_append, List.nil_append, scanR, row_no, row_go, row_nil, row_out, if_pos, if_neg, Nat.reduceAdd, Nat.reduceEqDiff, Nat.zero_add, Nat.max_self, Nat.zero_ne_one, List.length_cons, List.length_nil, List.take_succ_cons, List.take_zero, valueI, reduceCtorEq, ↓reduceIte, mx10, mx11, mx12, mx13, mx20, mx21, mx22, mx23, mx30, mx31, mx32, mx33, not_false_eq_true, not_true_eq_false, scanX, Bool.false_eq_true]; try rfl)
    | cons b r =>
      have hb2 := hb b (by simp)
      by_cases hp : pairOk 237 b
      · have hp2 := hp
        unfold pairOk at hp2
        have hp3 : 128 ≤ b ∧ b ≤ 159 := by omega
        cases r with
        | nil => (simp (disch := omega) only [tableL, rowL, List.replicate, List.cons_append, List.nil_append, scanR, row_no, row_go, row_nil, row_out, if_pos, if_neg, Nat.reduceAdd, Nat.reduceEqDiff, Nat.zero_add, Nat.max_self, Nat.zero_ne_one, List.length_cons, List.length_nil, List.take_succ_cons, List.take_zero, valueI, reduceCtorEq, ↓reduceIte, mx10, mx11, mx12, mx13, mx20, mx21, mx22, mx23, mx30, mx31, mx32, mx33, not_false_eq_true, not_true_eq_false, hp, scanX, Bool.false_eq_true]; try rfl)
        | cons c r =>
          have hb3 := hb c (by simp)
          cases h3 : contB c with
          | false => have := cont_no h3; (simp (disch := omega) only [tableL, rowL, List.replicate, List.cons_append, List.nil_append, scanR, row_no, row_go, row_nil, row_out, if_pos, if_neg, Nat.reduceAdd, Nat.reduceEqDiff, Nat.zero_add, Nat.max_self, Nat.zero_ne_one, List.length_cons, List.length_nil, List.take_succ_cons, List.take_zero, valueI, reduceCtorEq, ↓reduceIte, mx10, mx11, mx12, mx13, mx20, mx21, mx22, mx23, mx30, mx31, mx32, mx33, not_false_eq_true, not_true_eq_false, hp, h3, scanX, Bool.false_eq_true]; try rfl)
          | true => have := cont_yes h3; (simp (disch := omega) only [tableL, rowL, List.replicate, List.cons_append, List.nil_append, scanR, row_no, row_go, row_nil, row_out, if_pos, if_neg, Nat.reduceAdd, Nat.reduceEqDiff, Nat.zero_add, Nat.max_self, Nat.zero_ne_one, List.length_cons, List.length_nil, List.take_succ_cons, List.take_zero, valueI, reduceCtorEq, ↓reduceIte, mx10, mx11, mx12, mx13, mx20, mx21, mx22, mx23, mx30, mx31, mx32, mx33, not_false_eq_true, not_true_eq_false, hp, h3, scanX, Bool.false_eq_true]; try rfl)
      · have hp3 : b < 128 ∨ 159 < b := by
          by_cases hq : b < 128 ∨ 159 < b
          · exact hq
          · exact absurd (by unfold pairOk; omega) hp
        rcases hp3 with hp3 | hp3
        all_goals (simp (disch := omega) only [tableL, rowL, List.replicate, List.cons_append, List.nil_append, scanR, row_no, row_go, row_nil, row_out, if_pos, if_neg, Nat.reduceAdd, Nat.reduceEqDiff, Nat.zero_add, Nat.max_self, Nat.zero_ne_one, List.length_cons, List.length_nil, List.take_succ_cons, List.take_zero, valueI, reduceCtorEq, ↓reduceIte, mx10, mx11, mx12, mx13, mx20, mx21, mx22, mx23, mx30, mx31, mx32, mx33, not_false_eq_true, not_true_eq_false, hp, scanX, Bool.false_eq_true]; try rfl)
  · cases r with
    | nil => (simp (disch := omega) only [tableL, rowL, List.replicate, List.cons_append, List.nil_append, scanR, row_no, row_go, row_nil, row_out, if_pos, if_neg, Nat.reduceAdd, Nat.reduceEqDiff, Nat.zero_add, Nat.max_self, Nat.zero_ne_one, List.length_cons, List.length_nil, List.take_succ_cons, List.take_zero, valueI, reduceCtorEq, ↓reduceIte, mx10, mx11, mx12, mx13, mx20, mx21, mx22, mx23, mx30, mx31, mx32, mx33, not_false_eq_true, not_true_eq_false, scanX, Bool.false_eq_true]; try rfl)
    | cons b r =>
      have hb2 := hb b (by simp)
      by_cases hp : pairOk a b
      · have hp2 := hp
        unfold pairOk at hp2
        have hp3 : 128 ≤ b ∧ b ≤ 191 := by omega
        cases r with
        | nil => (simp (disch := omega) only [tableL, rowL, List.replicate, List.cons_append, List.nil_append, scanR, row_no, row_go, row_nil, row_out, if_pos, if_neg, Nat.reduceAdd, Nat.reduceEqDiff, Nat.zero_add, Nat.max_self, Nat.zero_ne_one, List.length_cons, List.length_nil, List.take_succ_cons, List.take_zero, valueI, reduceCtorEq, ↓reduceIte, mx10, mx11, mx12, mx13, mx20, mx21, mx22, mx23, mx30, mx31, mx32, mx33, not_false_eq_true, not_true_eq_false, hp, scanX, Bool.false_eq_true]; try rfl)
        | cons c r =>
          have hb3 := hb c (by simp)
          cases h3 : contB c with
          | false => have := cont_no h3; (simp (disch := omega) only [tableL, rowL, List.replicate, List.cons_append, List.nil_append, scanR, row_no, row_go, row_nil, row_out, if_pos, if_neg, Nat.reduceAdd, Nat.reduceEqDiff, Nat.zero_add, Nat.max_self, Nat.zero_ne_one, List.length_cons, List.length_nil, List.take_succ_cons, List.take_zero, valueI, reduceCtorEq, ↓reduceIte, mx10, mx11, mx12, mx13, mx20, mx21, mx22, mx23, mx30, mx31, mx32, mx33, not_false_eq_true, not_true_eq_false, hp, h3, scanX, Bool.false_eq_true]; try rfl)
          | true => have := cont_yes h3; (simp (disch := omega) only [tableL, rowL, List.replicate, List.cons_append, List.nil_append, scanR, row_no, row_go, row_nil, row_out, if_pos, if_neg, Nat.reduceAdd, Nat.reduceEqDiff, Nat.zero_add, Nat.max_self, Nat.zero_ne_one, List.length_cons, List.length_nil, List.take_succ_cons, List.take_zero, valueI, reduceCtorEq, ↓reduceIte, mx10, mx11, mx12, mx13, mx20, mx21, mx22, mx23, mx30, mx31, mx32, mx33, not_false_eq_true, not_true_eq_false, hp, h3, scanX, Bool.false_eq_true]; try rfl)
      · have hp3 : b < 128 ∨ 191 < b := by
          by_cases hq : b < 128 ∨ 191 < b
          · exact hq
          · exact absurd (by unfold pairOk; omega) hp
        rcases hp3 with hp3 | hp3
        all_goals (simp (disch := omega) only [tableL, rowL, List.replicate, List.cons_append, List.nil_append, scanR, row_no, row_go, row_nil, row_out, if_pos, if_neg, Nat.reduceAdd, Nat.reduceEqDiff, Nat.zero_add, Nat.max_self, Nat.zero_ne_one, List.length_cons, List.length_nil, List.take_succ_cons, List.take_zero, valueI, reduceCtorEq, ↓reduceIte, mx10, mx11, mx12, mx13, mx20, mx21, mx22, mx23, mx30, mx31, mx32, mx33, not_false_eq_true, not_true_eq_false, hp, scanX, Bool.false_eq_true]; try rfl)
  · cases r with
    | nil => (simp (disch := omega) only [tableL, rowL, List.replicate, List.cons_append, List.nil_append, scanR, row_no, row_go, row_nil, row_out, if_pos, if_neg, Nat.reduceAdd, Nat.reduceEqDiff, Nat.zero_add, Nat.max_self, Nat.zero_ne_one, List.length_cons, List.length_nil, List.take_succ_cons, List.take_zero, valueI, reduceCtorEq, ↓reduceIte, mx10, mx11, mx12, mx13, mx20, mx21, mx22, mx23, mx30, mx31, mx32, mx33, not_false_eq_true, not_true_eq_false, scanX, Bool.false_eq_true]; try rfl)
    | cons b r =>
      have hb2 := hb b (by simp)
      by_cases hp : pairOk 240 b
      · have hp2 := hp
        unfold pairOk at hp2
        have hp3 : 144 ≤ b ∧ b ≤ 191 := by omega
        cases r with
        | nil => (simp (disch := omega) only [tableL, rowL, List.replicate, List.cons_append, List.nil_append, scanR, row_no, row_go, row_nil, row_out, if_pos, if_neg, Nat.reduceAdd, Nat.reduceEqDiff, Nat.zero_add, Nat.max_self, Nat.zero_ne_one, List.length_cons, List.length_nil, List.take_succ_cons, List.take_zero, valueI, reduceCtorEq, ↓reduceIte, mx10, mx11, mx12, mx13, mx20, mx21, mx22, mx23, mx30, mx31, mx32, mx33, not_false_eq_true, not_true_eq_false, hp, scanX, Bool.false_eq_true]; try rfl)
        | cons c r =>
          have hb3 := hb c (by simp)
          cases h3 : contB c with
          | false => have := cont_no h3; (simp (disch := omega) only [tableL, rowL, List.replicate, List.cons_append, List.nil_append, scanR, row_no, row_go, row_nil, row_out, if_pos, if_neg, Nat.reduceAdd, Nat.reduceEqDiff, Nat.zero_add, Nat.max_self, Nat.zero_ne_one, List.length_cons, List.length_nil, List.take_succ_cons, List.take_zero, valueI, reduceCtorEq, ↓reduceIte, mx10, mx11, mx12, mx13, mx20, mx21, mx22, mx23, mx30, mx31, mx32, mx33, not_false_eq_true, not_true_eq_false, hp, h3, scanX, Bool.false_eq_true]; try rfl)
          | true =>
            have := cont_yes h3
            cases r with
            | nil => (simp (disch := omega) only [tableL, rowL, List.replicate, List.cons_append, List.nil_append, scanR, row_no, row_go, row_nil, row_out, if_pos, if_neg, Nat.reduceAdd, Nat.reduceEqDiff, Nat.zero_add, Nat.max_self, Nat.zero_ne_one, List.length_cons, List.length_nil, List.take_succ_cons, List.take_zero, valueI, reduceCtorEq, ↓reduceIte, mx10, mx11, mx12, mx13, mx20, mx21, mx22, mx23, mx30, mx31, mx32, mx33, not_false_eq_true, not_true_eq_false, hp, h3, scanX, Bool.false_eq_true]; try rfl)
            | cons d r =>
              have hb4 := hb d (by simp)
              cases h4 : contB d with
              | false => have := cont_no h4; (simp (disch := omega) only [tableL, rowL, List.replicate, List.cons_append, List.nil_append, scanR, row_no, row_go, row_nil, row_out, if_pos, if_neg, Nat.reduceAdd, Nat.reduceEqDiff, Nat.zero_add, Nat.max_self, Nat.zero_ne_one, List.length_cons, List.length_nil, List.take_succ_cons, List.take_zero, valueI, reduceCtorEq, ↓reduceIte, mx10, mx11, mx12, mx13, mx20, mx21, mx22, mx23, mx30, mx31, mx32, mx33, not_false_eq_true, not_true_eq_false, hp, h3, h4, scanX, Bool.false_eq_true]; try rfl)
              | true => have := cont_yes h4; (simp (disch := omega) only [tableL, rowL, List.replicate, List.cons_append, List.nil_append, scanR, row_no, row_go, row_nil, row_out, if_pos, if_neg, Nat.reduceAdd, Nat.reduceEqDiff, Nat.zero_add, Nat.max_self, Nat.zero_ne_one, List.length_cons, List.length_nil, List.take_succ_cons, List.take_zero, valueI, reduceCtorEq, ↓reduceIte, mx10, mx11, mx12, mx13, mx20, mx21, mx22, mx23, mx30, mx31, mx32, mx33, not_false_eq_true, not_true_eq_false, hp, h3, h4, scanX, Bool.false_eq_true]; try rfl)
      · have hp3 : b < 144 ∨ 191 < b := by
          by_cases hq : b < 144 ∨ 191 < b
          · exact hq
          · exact absurd (by unfold pairOk; omega) hp
        rcases hp3 with hp3 | hp3
        all_goals (simp (disch := omega) only [tableL, rowL, List.replicate, List.cons_append, List.nil_append, scanR, row_no, row_go, row_nil, row_out, if_pos, if_neg, Nat.reduceAdd, Nat.reduceEqDiff, Nat.zero_add, Nat.max_self, Nat.zero_ne_one, List.length_cons, List.length_nil, List.take_succ_cons, List.take_zero, valueI, reduceCtorEq, ↓reduceIte, mx10, mx11, mx12, mx13, mx20, mx21, mx22, mx23, mx30, mx31, mx32, mx33, not_false_eq_true, not_true_eq_false, hp, scanX, Bool.false_eq_true]; try rfl)
  · cases r with
    | nil => (simp (disch := omega) only [tableL, rowL, List.replicate, List.cons_append, List.nil_append, scanR, row_no, row_go, row_nil, row_out, if_pos, if_neg, Nat.reduceAdd, Nat.reduceEqDiff, Nat.zero_add, Nat.max_self, Nat.zero_ne_one, List.length_cons, List.length_nil, List.take_succ_cons, List.take_zero, valueI, reduceCtorEq, ↓reduceIte, mx10, mx11, mx12, mx13, mx20, mx21, mx22, mx23, mx30, mx31, mx32, mx33, not_false_eq_true, not_true_eq_false, scanX, Bool.false_eq_true]; try rfl)
    | cons b r =>
      have hb2 := hb b (by simp)
      by_cases hp : pairOk a b
      · have hp2 := hp
        unfold pairOk at hp2
        have hp3 : 128 ≤ b ∧ b ≤ 191 := by omega
        cases r with
        | nil => (simp (disch := omega) only [tableL, rowL, List.replicate, List.cons_append, List.nil_append, scanR, row_no, row_go, row_nil, row_out, if_pos, if_neg, Nat.reduceAdd, Nat.reduceEqDiff, Nat.zero_add, Nat.max_self, Nat.zero_ne_one, List.length_cons, List.length_nil, List.take_succ_cons, List.take_zero, valueI, reduceCtorEq, ↓reduceIte, mx10, mx11, mx12, mx13, mx20, mx21, mx22, mx23, mx30, mx31, mx32, mx33, not_false_eq_true, not_true_eq_false, hp, scanX, Bool.false_eq_true]; try rfl)
        | cons c r =>
          have hb3 := hb c (by simp)
          cases h3 : contB c with
          | false => have := cont_no h3; (simp (disch := omega) only [tableL, rowL, List.replicate, List.cons_append, List.nil_append, scanR, row_no, row_go, row_nil, row_out, if_pos, if_neg, Nat.reduceAdd, Nat.reduceEqDiff, Nat.zero_add, Nat.max_self, Nat.zero_ne_one, List.length_cons, List.length_nil, List.take_succ_cons, List.take_zero, valueI, reduceCtorEq, ↓reduceIte, mx10, mx11, mx12, mx13, mx20, mx21, mx22, mx23, mx30, mx31, mx32, mx33, not_false_eq_true, not_true_eq_false, hp, h3, scanX, Bool.false_eq_true]; try rfl)
          | true =>
            have := cont_yes h3
            cases r with
            | nil => (simp (disch := omega) only [tableL, rowL, List.replicate, List.cons_append, List.nil_append, scanR, row_no, row_go, row_nil, row_out, if_pos, if_neg, Nat.reduceAdd, Nat.reduceEqDiff, Nat.zero_add, Nat.max_self, Nat.zero_ne_one, List.length_cons, List.length_nil, List.take_succ_cons, List.take_zero, valueI, reduceCtorEq, ↓reduceIte, mx10, mx11, mx12, mx13, mx20, mx21, mx22, mx23, mx30, mx31, mx32, mx33, not_false_eq_true, not_true_eq_false, hp, h3, scanX, Bool.false_eq_true]; try rfl)
            | cons d r =>
              have hb4 := hb d (by simp)
              cases h4 : contB d with
              | false => have := cont_no h4; (simp (disch := omega) only [tableL, rowL, List.replicate, List.cons_append, List.nil_append, scanR, row_no, row_go, row_nil, row_out, if_pos, if_neg, Nat.reduceAdd, Nat.reduceEqDiff, Nat.zero_add, Nat.max_self, Nat.zero_ne_one, List.length_cons, List.length_nil, List.take_succ_cons, List.take_zero, valueI, reduceCtorEq, ↓reduceIte, mx10, mx11, mx12, mx13, mx20, mx21, mx22, mx23, mx30, mx31, mx32, mx33, not_false_eq_true, not_true_eq_false, hp, h3, h4, scanX, Bool.false_eq_true]; try rfl)
              | true => have := cont_yes h4; (simp (disch := omega) only [tableL, rowL, List.replicate, List.cons_append, List.nil_append, scanR, row_no, row_go, row_nil, row_out, if_pos, if_neg, Nat.reduceAdd, Nat.reduceEqDiff, Nat.zero_add, Nat.max_self, Nat.zero_ne_one, List.length_cons, List.length_nil, List.take_succ_cons, List.take_zero, valueI, reduceCtorEq, ↓reduceIte, mx10, mx11, mx12, mx13, mx20, mx21, mx22, mx23, mx30, mx31, mx32, mx33, not_false_eq_true, not_true_eq_false, hp, h3, h4, scanX, Bool.false_eq_true]; try rfl)
      · have hp3 : b < 128 ∨ 191 < b := by
          by_cases hq : b < 128 ∨ 191 < b
          · exact hq
          · exact absurd (by unfold pairOk; omega) hp
        rcases hp3 with hp3 | hp3
        all_goals (simp (disch := omega) only [tableL, rowL, List.replicate, List.cons_append, List.nil_append, scanR, row_no, row_go, row_nil, row_out, if_pos, if_neg, Nat.reduceAdd, Nat.reduceEqDiff, Nat.zero_add, Nat.max_self, Nat.zero_ne_one, List.length_cons, List.length_nil, List.take_succ_cons, List.take_zero, valueI, reduceCtorEq, ↓reduceIte, mx10, mx11, mx12, mx13, mx20, mx21, mx22, mx23, mx30, mx31, mx32, mx33, not_false_eq_true, not_true_eq_false, hp, scanX, Bool.false_eq_true]; try rfl)
  · cases r with
    | nil => (simp (disch := omega) only [tableL, rowL, List.replicate, List.cons_append, List.nil_append, scanR, row_no, row_go, row_nil, row_out, if_pos, if_neg, Nat.reduceAdd, Nat.reduceEqDiff, Nat.zero_add, Nat.max_self, Nat.zero_ne_one, List.length_cons, List.length_nil, List.take_succ_cons, List.take_zero, valueI, reduceCtorEq, ↓reduceIte, mx10, mx11, mx12, mx13, mx20, mx21, mx22, mx23, mx30, mx31, mx32, mx33, not_false_eq_true, not_true_eq_false, scanX, Bool.false_eq_true]; try rfl)
    | cons b r =>
      have hb2 := hb b (by simp)
      by_cases hp : pairOk 244 b
      · have hp2 := hp
        unfold pairOk at hp2
        have hp3 : 128 ≤ b ∧ b ≤ 143 := by omega
        cases r with
        | nil => (simp (disch := omega) only [tableL, rowL, List.replicate, List.cons_append, List.nil_append, scanR, row_no, row_go, row_nil, row_out, if_pos, if_neg, Nat.reduceAdd, Nat.reduceEqDiff, Nat.zero_add, Nat.max_self, Nat.zero_ne_one, List.length_cons, List.length_nil, List.take_succ_cons, List.take_zero, valueI, reduceCtorEq, ↓reduceIte, mx10, mx11, mx12, mx13, mx20, mx21, mx22, mx23, mx30, mx31, mx32, mx33, not_false_eq_true, not_true_eq_false, hp, scanX, Bool.false_eq_true]; try rfl)
        | cons c r =>
          have hb3 := hb c (by simp)
          cases h3 : contB c with
          | false => have := cont_no h3; (simp (disch := omega) only [tableL, rowL, List.replicate, List.cons_append, List.nil_append, scanR, row_no, row_go, row_nil, row_out, if_pos, if_neg, Nat.reduceAdd, Nat.reduceEqDiff, Nat.zero_add, Nat.max_self, Nat.zero_ne_one, List.length_cons, List.length_nil, List.take_succ_cons, List.take_zero, valueI, reduceCtorEq, ↓reduceIte, mx10, mx11, mx12, mx13, mx20, mx21, mx22, mx23, mx30, mx31, mx32, mx33, not_false_eq_true, not_true_eq_false, hp, h3, scanX, Bool.false_eq_true]; try rfl)
          | true =>
            have := cont_yes h3
            cases r with
            | nil => (simp (disch := omega) only [tableL, rowL, List.replicate, List.cons_append, List.nil_append, scanR, row_no, row_go, row_nil, row_out, if_pos, if_neg, Nat.reduceAdd, Nat.reduceEqDiff, Nat.zero_add, Nat.max_self, Nat.zero_ne_one, List.length_cons, List.length_nil, List.take_succ_cons, List.take_zero, valueI, reduceCtorEq, ↓reduceIte, mx10, mx11, mx12, mx13, mx20, mx21, mx22, mx23, mx30, mx31, mx32, mx33, not_false_eq_true, not_true_eq_false, hp, h3, scanX, Bool.false_eq_true]; try rfl)
            | cons d r =>
              have hb4 := hb d (by simp)
              cases h4 : contB d with
              | false => have := cont_no h4; (simp (disch := omega) only [tableL, rowL, List.replicate, List.cons_append, List.nil_append, scanR, row_no, row_go, row_nil, row_out, if_pos, if_neg, Nat.reduceAdd, Nat.reduceEqDiff, Nat.zero_add, Nat.max_self, Nat.zero_ne_one, List.length_cons, List.length_nil, List.take_succ_cons, List.take_zero, valueI, reduceCtorEq, ↓reduceIte, mx10, mx11, mx12, mx13, mx20, mx21, mx22, mx23, mx30, mx31, mx32, mx33, not_false_eq_true, not_true_eq_false, hp, h3, h4, scanX, Bool.false_eq_true]; try rfl)
              | true => have := cont_yes h4; (simp (disch := omega) only [tableL, rowL, List.replicate, List.cons_append, List.nil_append, scanR, row_no, row_go, row_nil, row_out, if_pos, if_neg, Nat.reduceAdd, Nat.reduceEqDiff, Nat.zero_add, Nat.max_self, Nat.zero_ne_one, List.length_cons, List.length_nil, List.take_succ_cons, List.take_zero, valueI, reduceCtorEq, ↓reduceIte, mx10, mx11, mx12, mx13, mx20, mx21, mx22, mx23, mx30, mx31, mx32, mx33, not_false_eq_true, not_true_eq_false, hp, h3, h4, scanX, Bool.false_eq_true]; try rfl)
      · have hp3 : b < 128 ∨ 143 < b := by
          by_cases hq : b < 128 ∨ 143 < b
          · exact hq
          · exact absurd (by unfold pairOk; omega) hp
        rcases hp3 with hp3 | hp3
        all_goals (simp (disch := omega) only [tableL, rowL, List.replicate, List.cons_append, List.nil_append, scanR, row_no, row_go, row_nil, row_out, if_pos, if_neg, Nat.reduceAdd, Nat.reduceEqDiff, Nat.zero_add, Nat.max_self, Nat.zero_ne_one, List.length_cons, List.length_nil, List.take_succ_cons, List.take_zero, valueI, reduceCtorEq, ↓reduceIte, mx10, mx11, mx12, mx13, mx20, mx21, mx22, mx23, mx30, mx31, mx32, mx33, not_false_eq_true, not_true_eq_false, hp, scanX, Bool.false_eq_true]; try rfl)
end Go.Proofs.Ytdmjhlofphhldaa

