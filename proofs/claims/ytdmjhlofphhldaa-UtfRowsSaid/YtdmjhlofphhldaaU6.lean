/-
  Layer 10: what stands behind valid bytes, or behind any with a letter between, is repaired as if it stood alone.
-/
import Derived.Test.YtdmjhlofphhldaaU5
set_option linter.unusedSimpArgs false
set_option linter.unusedVariables false
namespace Go.Proofs.Ytdmjhlofphhldaa
open Abs
theorem intsEq_at {l m : List Int} {k : Nat} (h1 : k < l.length) (h2 : k < m.length) : l.drop k = m.drop k ↔ nth l k = nth m k ∧ l.drop (k + 1) = m.drop (k + 1) := by
  rw [drop_at h1, drop_at h2, List.cons.injEq]
theorem ref02_Same (a b : List Int) (hl : a.length ≤ 1000000000000) : PC Try.prog 22 [runesV a, runesV b] (.bool (decide (a = b))) := by
  refine pc_w' c_ref02_Same ?_
  unfold B_ref02_Same
  (repeat' (first | (simp (disch := omega) only [push_cast, ↓z1, ↓z2, ↓z3, ↓z4, ↓z5, ↓z6, ↓z7, ↓z8, ↓z9, ↓z10, ↓z11, ↓z12, ↓z13, ↓z14, ↓z15, ↓z16, ↓z17, ↓z18, ↓z19, ↓z20, ↓z21, ↓z22, ↓z23, ↓z24, ↓z25, ↓z26, ↓z27, ↓z28, ↓z29, ↓z30, ↓z31, ↓z32, ↓z33, ↓reduceIte, reduceCtorEq, Nat.reduceEqDiff, Nat.reduceAdd, Nat.reduceSub, Nat.reduceMul, Nat.reduceLT, Nat.reduceLeDiff, Int.reduceEq, Int.reduceLT, Int.reduceLE, Int.reduceAdd, Int.reduceSub, Int.reduceNeg, Int.reduceToNat]) | (with_reducible refine And.intro ?_ ?_) | (with_reducible refine condW_split ?_ ?_ <;> intro hc <;> (try simp only [push_cast] at hc)) | (with_reducible refine guardW_split ?_ ?_ <;> intro hc <;> (try simp only [push_cast] at hc)) | omega | (with_reducible intro _)))
  all_goals first
    | (have : ¬ a = b := fun h => by simp_all
       simp [this]; done)
    | skip
  refine LoopK_T (T_loopR (fun (k : Nat) => k ≤ a.length ∧ (a = b ↔ a.drop k = b.drop k)) (fun k => a.length - k)
    (fun k => [(0, runesV a), (1, runesV b), (5, .int .i64 k)]) (fun _ => []) (fun _ _ => []) 0 (by simp) ?_ ?_)
  · (repeat' (first | (simp (disch := omega) only [push_cast, ↓z1, ↓z2, ↓z3, ↓z4, ↓z5, ↓z6, ↓z7, ↓z8, ↓z9, ↓z10, ↓z11, ↓z12, ↓z13, ↓z14, ↓z15, ↓z16, ↓z17, ↓z18, ↓z19, ↓z20, ↓z21, ↓z22, ↓z23, ↓z24, ↓z25, ↓z26, ↓z27, ↓z28, ↓z29, ↓z30, ↓z31, ↓z32, ↓z33, ↓reduceIte, reduceCtorEq, Nat.reduceEqDiff, Nat.reduceAdd, Nat.reduceSub, Nat.reduceMul, Nat.reduceLT, Nat.reduceLeDiff, Int.reduceEq, Int.reduceLT, Int.reduceLE, Int.reduceAdd, Int.reduceSub, Int.reduceNeg, Int.reduceToNat]) | (with_reducible refine And.intro ?_ ?_) | (with_reducible refine condW_split ?_ ?_ <;> intro hc <;> (try simp only [push_cast] at hc)) | (with_reducible refine guardW_split ?_ ?_ <;> intro hc <;> (try simp only [push_cast] at hc)) | omega | (with_reducible intro _)))
  rintro k ⟨hk, hr⟩
  refine W_T ?_
  (repeat' (first | (simp (disch := omega) only [push_cast, ↓z1, ↓z2, ↓z3, ↓z4, ↓z5, ↓z6, ↓z7, ↓z8, ↓z9, ↓z10, ↓z11, ↓z12, ↓z13, ↓z14, ↓z15, ↓z16, ↓z17, ↓z18, ↓z19, ↓z20, ↓z21, ↓z22, ↓z23, ↓z24, ↓z25, ↓z26, ↓z27, ↓z28, ↓z29, ↓z30, ↓z31, ↓z32, ↓z33, ↓reduceIte, reduceCtorEq, Nat.reduceEqDiff, Nat.reduceAdd, Nat.reduceSub, Nat.reduceMul, Nat.reduceLT, Nat.reduceLeDiff, Int.reduceEq, Int.reduceLT, Int.reduceLE, Int.reduceAdd, Int.reduceSub, Int.reduceNeg, Int.reduceToNat]) | (with_reducible refine And.intro ?_ ?_) | (with_reducible refine condW_split ?_ ?_ <;> intro hc <;> (try simp only [push_cast] at hc)) | (with_reducible refine guardW_split ?_ ?_ <;> intro hc <;> (try simp only [push_cast] at hc)) | omega | (with_reducible intro _)))
  all_goals first
    | exact ⟨k + 1, by simp, ⟨by omega, by rw [hr, intsEq_at (by omega) (by omega)]; simp [*]⟩, by omega⟩
    | (rw [eq_comm, decide_eq_false_iff_not, hr, intsEq_at (by omega) (by omega)]; simp [*]; done)
    | (rw [eq_comm, decide_eq_true_eq, hr, List.drop_of_length_le (by omega), List.drop_of_length_le (by omega)]; done)

/-! What stands behind. -/
theorem match_tail {c : Int} {b : List Int} : ∀ (r : List (List Span)) (a : List Int), (∀ s ∈ r, hasI s c = false) → matchN r (a ++ c :: b) = matchN r a
  | [], a, _ => by rw [matchN, matchN] <;> simp
  | s :: r, [], h => by rw [List.nil_append, matchN, h s (by simp)]; simp [matchN]
  | s :: r, x :: a, h => by rw [List.cons_append, matchN, matchN, match_tail r a fun s hs => h s (by simp [hs])]
theorem match_letter {c : Int} {b : List Int} (r : List (List Span)) (a : List Int) (hne : a ≠ []) (h : ∀ s ∈ r.tail, hasI s c = false) : matchN r (a ++ c :: b) = matchN r a := by
  match r, a, hne with
  | [], a, _ => rw [matchN, matchN] <;> simp
  | s :: r, x :: a, _ => rw [List.cons_append, matchN, matchN, match_tail r a h]
theorem table_tails : ∀ r ∈ tableL, ∀ s ∈ r.tail, ∀ t ∈ s, 128 ≤ t.lo := by decide
theorem tail_letter {c : Int} (hc : 0 ≤ c ∧ c < 128) : ∀ r ∈ tableL, ∀ s ∈ r.tail, hasI s c = false := fun r hr s hs => by
  have := table_tails r hr s hs
  simp only [hasI, Bool.and_eq_false_iff, List.any_eq_false, decide_eq_true_eq]
  exact .inr fun t ht => by have := this t ht; omega
theorem scanR_letter {c : Int} {b : List Int} {a : List Int} (hne : a ≠ []) : ∀ (rs : List (List (List Span))) (m : Nat), (∀ r ∈ rs, ∀ s ∈ r.tail, hasI s c = false) → scanR rs (a ++ c :: b) m = scanR rs a m
  | [], m, _ => rfl
  | r :: rs, m, h => by
    rw [scanR, scanR, match_letter r a hne (h r (by simp)), scanR_letter hne rs _ fun r hr => h r (by simp [hr])]
    split
    · have := match_le r a
      rw [List.take_append_of_le_length (by omega)]
    · rfl
theorem repair_letter {c : Int} {b : List Int} (hc : 0 ≤ c ∧ c < 128) : ∀ (k : Nat) (a : List Int), a.length ≤ k → repairI (a ++ c :: b) = repairI a ++ repairI (c :: b)
  | 0, a, h => by obtain rfl : a = [] := List.length_eq_zero_iff.1 (by omega); rfl
  | k + 1, a, h => by
    by_cases hne : a = []
    · subst hne; rfl
    · have hz := scan_size hne
      rw [repair_step (by simp [hne]), scanR_letter hne tableL 1 (tail_letter hc), List.drop_append_of_le_length (by omega), repair_letter hc k _ (by simp; omega), repair_step hne, List.cons_append]
theorem scan_letter {c : Int} (b : List Int) (hc : 0 ≤ c ∧ c < 128) : scanR tableL (c :: b) 1 = (c, 1, true) := by
  rw [tableL, scanR, matchN, has_yes (by omega)]
  simp [matchN, valueI]
theorem repair_front {c : Int} (b : List Int) (hc : 0 ≤ c ∧ c < 128) : repairI (c :: b) = c :: repairI b := by
  rw [repair_step (by simp), scan_letter b hc]; rfl
theorem match_pre : ∀ {r : List (List Span)} {a : List Int} (b : List Int), matchN r a = r.length → matchN r (a ++ b) = r.length
  | [], a, b, _ => by rw [matchN] <;> simp
  | s :: r, [], b, h => by simp [matchN] at h
  | s :: r, x :: a, b, h => by
    rw [matchN] at h
    rw [List.cons_append, matchN]
    split at h
    · rename_i hs; rw [if_pos hs, match_pre b (r := r) (by simpa using h)]; rfl
    · simp at h
def headHas (r : List (List Span)) (x : Int) : Bool := match r with | [] => false | s :: _ => hasI s x
theorem match_head {r : List (List Span)} {x : Int} {a : List Int} (h : headHas r x = false) : matchN r (x :: a) = 0 := by
  cases r with
  | nil => rw [matchN]; simp
  | cons s r => rw [matchN, if_neg (by simp [headHas] at h; simp [h])]
theorem scanR_head : ∀ (rs : List (List (List Span))) (x : Int) (a : List Int) (m : Nat), (∀ r ∈ rs, 1 ≤ r.length) → (scanR rs (x :: a) m).2.2 = true → ∃ r ∈ rs, headHas r x = true
  | [], x, a, m, _, h => by cases h
  | r :: rs, x, a, m, hr, h => by
    cases hh : headHas r x with
    | true => exact ⟨r, by simp, hh⟩
    | false =>
      have := hr r (by simp)
      rw [scanR, match_head hh, if_neg (by omega)] at h
      obtain ⟨r', h1, h2⟩ := scanR_head rs x a _ (fun r h => hr r (by simp [h])) h
      exact ⟨r', by simp [h1], h2⟩
theorem scanR_valid (b : List Int) : ∀ (rs : List (List (List Span))) (x : Int) (a : List Int) (m : Nat), (∀ r ∈ rs, 1 ≤ r.length) → rs.Pairwise (fun r r' => ∀ x, headHas r x = true → headHas r' x = false) → (scanR rs (x :: a) m).2.2 = true → scanR rs (x :: a ++ b) m = scanR rs (x :: a) m
  | [], x, a, m, _, _, h => by cases h
  | r :: rs, x, a, m, hr, hp, h => by
    rw [scanR] at h
    rw [scanR, scanR]
    by_cases hm : matchN r (x :: a) = r.length
    · have := match_le r (x :: a)
      rw [if_pos hm, if_pos (match_pre b hm), List.take_append_of_le_length (by omega)]
    · rw [if_neg hm] at h
      obtain ⟨r', h1, h2⟩ := scanR_head rs x a _ (fun r h => hr r (by simp [h])) h
      have hno : headHas r x = false := by
        cases hh : headHas r x with
        | false => rfl
        | true => have := (List.pairwise_cons.1 hp).1 r' h1 x hh; rw [this] at h2; cases h2
      have := hr r (by simp)
      have h3 : matchN r (x :: a) = 0 := match_head hno
      have h4 : matchN r (x :: a ++ b) = 0 := match_head hno
      rw [h3] at h
      rw [h3, h4, if_neg (by omega), if_neg (by omega), scanR_valid b rs x a _ (fun r h => hr r (by simp [h])) (List.pairwise_cons.1 hp).2 h]
theorem head_two {lo hi x : Int} {r : List (List Span)} (h : headHas ([⟨lo, hi⟩] :: r) x = true) : lo ≤ x ∧ x ≤ hi := by simp [headHas, hasI] at h; omega
theorem table_apart : tableL.Pairwise (fun r r' => ∀ x, headHas r x = true → headHas r' x = false) := by
  simp only [tableL, rowL, List.cons_append, List.nil_append, List.pairwise_cons, List.mem_cons, List.not_mem_nil, or_false, forall_eq_or_imp, forall_eq, List.Pairwise.nil, and_true, headHas]
  repeat' (first | (with_reducible refine And.intro ?_ ?_) | (intro x h; have := head_two (r := []) h; exact has_no (by omega)))
  all_goals simp
theorem repair_valid (b : List Int) : ∀ (k : Nat) (a : List Int), a.length ≤ k → validI a = true → repairI (a ++ b) = repairI a ++ repairI b ∧ validI (a ++ b) = validI b
  | 0, a, h, _ => by obtain rfl : a = [] := List.length_eq_zero_iff.1 (by omega); exact ⟨rfl, rfl⟩
  | k + 1, [], h, _ => ⟨rfl, rfl⟩
  | k + 1, x :: a, h, hv => by
    have hz := scan_size (b := x :: a) (by simp)
    rw [valid_step (by simp), Bool.and_eq_true] at hv
    have hs := scanR_valid b tableL x a 1 (fun r hr => (table_fits r hr).1) table_apart hv.1
    have ih := repair_valid b k ((x :: a).drop (scanR tableL (x :: a) 1).2.1) (by simp at h ⊢; omega) hv.2
    rw [repair_step (by simp), valid_step (by simp), hs, List.drop_append_of_le_length (by omega), ih.1, ih.2, repair_step (b := x :: a) (by simp), hv.1]
    exact ⟨rfl, rfl⟩
end Go.Proofs.Ytdmjhlofphhldaa
