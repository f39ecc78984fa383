/-
  Contracts of layer 10: all scalars; FFFD for each part.
-/
import Derived.Test.YtdmjhlofphhldaaU3
set_option linter.unusedSimpArgs false
set_option linter.unusedVariables false
namespace Go.Proofs.Ytdmjhlofphhldaa
open Abs
theorem match_le : ∀ (r : List (List Span)) (b : List Int), matchN r b ≤ b.length
  | [], _ => by simp [matchN]
  | _ :: _, [] => by simp [matchN]
  | s :: r, x :: b => by
    rw [matchN]
    have := match_le r b
    split <;> simp <;> omega
theorem scanR_size : ∀ (rs : List (List (List Span))) (b : List Int) (m : Nat), (∀ r ∈ rs, 1 ≤ r.length) → 1 ≤ m → m ≤ b.length → 1 ≤ (scanR rs b m).2.1 ∧ (scanR rs b m).2.1 ≤ b.length
  | [], b, m, _, h1, h2 => ⟨h1, h2⟩
  | r :: rs, b, m, hr, h1, h2 => by
    have hl := match_le r b
    rw [scanR]
    split
    · have := hr r (by simp); exact ⟨this, by show r.length ≤ _; omega⟩
    · exact scanR_size rs b _ (fun r hr' => hr r (by simp [hr'])) (by omega) (by omega)
theorem scan_size {b : List Int} (h : b ≠ []) : 1 ≤ (scanR tableL b 1).2.1 ∧ (scanR tableL b 1).2.1 ≤ b.length :=
  scanR_size tableL b 1 (fun r hr => (table_fits r hr).1) (Nat.le_refl _) (by cases b with | nil => exact absurd rfl h | cons => simp)

/-- All scalars of some bytes, FFFD for each part. -/
def repairF : Nat → List Int → List Int
  | 0, _ => []
  | _ + 1, [] => []
  | k + 1, x :: b => (scanR tableL (x :: b) 1).1 :: repairF k ((x :: b).drop (scanR tableL (x :: b) 1).2.1)
theorem repairF_fuel : ∀ (k k' : Nat) (b : List Int), b.length ≤ k → b.length ≤ k' → repairF k b = repairF k' b
  | 0, 0, _, _, _ => rfl
  | 0, k' + 1, b, h, _ => by cases b with | nil => rfl | cons => simp at h
  | k + 1, 0, b, _, h => by cases b with | nil => rfl | cons => simp at h
  | k + 1, k' + 1, [], _, _ => rfl
  | k + 1, k' + 1, x :: b, h, h' => by
    have := scan_size (b := x :: b) (by simp)
    rw [repairF, repairF, repairF_fuel k k' _ (by simp at h ⊢; omega) (by simp at h' ⊢; omega)]
def repairI (b : List Int) : List Int := repairF b.length b
theorem repair_step {b : List Int} (h : b ≠ []) : repairI b = (scanR tableL b 1).1 :: repairI (b.drop (scanR tableL b 1).2.1) := by
  cases b with
  | nil => exact absurd rfl h
  | cons x b =>
    have := scan_size (b := x :: b) (by simp)
    show (scanR tableL (x :: b) 1).1 :: repairF b.length _ = _
    rw [repairF_fuel b.length ((x :: b).drop (scanR tableL (x :: b) 1).2.1).length _ (by simp at this ⊢; omega) (Nat.le_refl _)]
    rfl
/-- Whether all is well formed. -/
def validF : Nat → List Int → Bool
  | 0, _ => true
  | _ + 1, [] => true
  | k + 1, x :: b => (scanR tableL (x :: b) 1).2.2 && validF k ((x :: b).drop (scanR tableL (x :: b) 1).2.1)
theorem validF_fuel : ∀ (k k' : Nat) (b : List Int), b.length ≤ k → b.length ≤ k' → validF k b = validF k' b
  | 0, 0, _, _, _ => rfl
  | 0, k' + 1, b, h, _ => by cases b with | nil => rfl | cons => simp at h
  | k + 1, 0, b, _, h => by cases b with | nil => rfl | cons => simp at h
  | k + 1, k' + 1, [], _, _ => rfl
  | k + 1, k' + 1, x :: b, h, h' => by
    have := scan_size (b := x :: b) (by simp)
    rw [validF, validF, validF_fuel k k' _ (by simp at h ⊢; omega) (by simp at h' ⊢; omega)]
def validI (b : List Int) : Bool := validF b.length b
theorem valid_step {b : List Int} (h : b ≠ []) : validI b = ((scanR tableL b 1).2.2 && validI (b.drop (scanR tableL b 1).2.1)) := by
  cases b with
  | nil => exact absurd rfl h
  | cons x b =>
    have := scan_size (b := x :: b) (by simp)
    show ((scanR tableL (x :: b) 1).2.2 && validF b.length _) = _
    rw [validF_fuel b.length ((x :: b).drop (scanR tableL (x :: b) 1).2.1).length _ (by simp at this ⊢; omega) (Nat.le_refl _)]
    rfl
theorem scanI_at {b : List Int} {i : Nat} (h : i < b.length) : scanI b i = scanR tableL (b.drop i) 1 := by
  rw [scanI, if_neg (by omega), Int.toNat_natCast]
set_option maxHeartbeats 1000000 in
theorem utf_Repair (b : List Int) (hl : b.length ≤ 1000000000000) (hb : ∀ x ∈ b, 0 ≤ x ∧ x ≤ 255) : PC Try.prog 23 [bytesV b] (runesV (repairI b)) := by
  refine pc_w' c_utf_Repair ?_
  unfold B_utf_Repair
  (repeat' (first | (simp (disch := omega) only [push_cast, ↓z1, ↓z2, ↓z3, ↓z4, ↓z5, ↓z6, ↓z7, ↓z8, ↓z9, ↓z10, ↓z11, ↓z12, ↓z13, ↓z14, ↓z15, ↓z16, ↓z17, ↓z18, ↓z19, ↓z20, ↓z21, ↓z22, ↓z23, ↓z24, ↓z25, ↓z26, ↓z27, ↓z28, ↓z29, ↓z30, ↓z31, ↓z32, ↓z33, ↓reduceIte, reduceCtorEq, Nat.reduceEqDiff, Nat.reduceAdd, Nat.reduceSub, Nat.reduceMul, Nat.reduceLT, Nat.reduceLeDiff, Int.reduceEq, Int.reduceLT, Int.reduceLE, Int.reduceAdd, Int.reduceSub, Int.reduceNeg, Int.reduceToNat]) | (with_reducible refine And.intro ?_ ?_) | (with_reducible refine condW_split ?_ ?_ <;> intro hc <;> (try simp only [push_cast] at hc)) | (with_reducible refine guardW_split ?_ ?_ <;> intro hc <;> (try simp only [push_cast] at hc)) | omega | (with_reducible intro _)))
  refine LoopK_T (T_loopR (fun (s : Nat × List Int) => s.1 ≤ b.length ∧ s.2.length ≤ s.1 ∧ repairI b = s.2 ++ repairI (b.drop s.1)) (fun s => b.length - s.1)
    (fun s => [(0, bytesV b), (3, .ref 0 1 0 s.2.length), (4, .int .i64 s.1)]) (fun s => [⟨1, 1, false, s.2.map (AV.int .i32)⟩]) (fun env _ => [srcOf 1 (env 3)]) (0, []) (by simp) ?_ ?_)
  · (repeat' (first | (simp (disch := omega) only [push_cast, ↓z1, ↓z2, ↓z3, ↓z4, ↓z5, ↓z6, ↓z7, ↓z8, ↓z9, ↓z10, ↓z11, ↓z12, ↓z13, ↓z14, ↓z15, ↓z16, ↓z17, ↓z18, ↓z19, ↓z20, ↓z21, ↓z22, ↓z23, ↓z24, ↓z25, ↓z26, ↓z27, ↓z28, ↓z29, ↓z30, ↓z31, ↓z32, ↓z33, ↓reduceIte, reduceCtorEq, Nat.reduceEqDiff, Nat.reduceAdd, Nat.reduceSub, Nat.reduceMul, Nat.reduceLT, Nat.reduceLeDiff, Int.reduceEq, Int.reduceLT, Int.reduceLE, Int.reduceAdd, Int.reduceSub, Int.reduceNeg, Int.reduceToNat]) | (with_reducible refine And.intro ?_ ?_) | (with_reducible refine condW_split ?_ ?_ <;> intro hc <;> (try simp only [push_cast] at hc)) | (with_reducible refine guardW_split ?_ ?_ <;> intro hc <;> (try simp only [push_cast] at hc)) | omega | (with_reducible intro _)))
  rintro ⟨i, l⟩ ⟨hi, hll, hr⟩
  simp only at hi hll hr
  refine W_T ?_
  (repeat' (first | (simp (disch := omega) only [push_cast, ↓z1, ↓z2, ↓z3, ↓z4, ↓z5, ↓z6, ↓z7, ↓z8, ↓z9, ↓z10, ↓z11, ↓z12, ↓z13, ↓z14, ↓z15, ↓z16, ↓z17, ↓z18, ↓z19, ↓z20, ↓z21, ↓z22, ↓z23, ↓z24, ↓z25, ↓z26, ↓z27, ↓z28, ↓z29, ↓z30, ↓z31, ↓z32, ↓z33, ↓reduceIte, reduceCtorEq, Nat.reduceEqDiff, Nat.reduceAdd, Nat.reduceSub, Nat.reduceMul, Nat.reduceLT, Nat.reduceLeDiff, Int.reduceEq, Int.reduceLT, Int.reduceLE, Int.reduceAdd, Int.reduceSub, Int.reduceNeg, Int.reduceToNat]) | (with_reducible refine And.intro ?_ ?_) | (with_reducible refine condW_split ?_ ?_ <;> intro hc <;> (try simp only [push_cast] at hc)) | (with_reducible refine guardW_split ?_ ?_ <;> intro hc <;> (try simp only [push_cast] at hc)) | (with_reducible refine eK (utf_Scan b i (by omega) hb) ?_) | (with_reducible refine eQ (utf_Scan b i (by omega) hb) ?_) | (with_reducible refine eG (utf_Scan b i (by omega) hb) ?_) | ((with_reducible refine cK (utf_Scan b i (by omega) hb) ?_); (simp (disch := omega) only [push_cast, ↓z1, ↓z2, ↓z3, ↓z4, ↓z5, ↓z6, ↓z7, ↓z8, ↓z9, ↓z10, ↓z11, ↓z12, ↓z13, ↓z14, ↓z15, ↓z16, ↓z17, ↓z18, ↓z19, ↓z20, ↓z21, ↓z22, ↓z23, ↓z24, ↓z25, ↓z26, ↓z27, ↓z28, ↓z29, ↓z30, ↓z31, ↓z32, ↓z33, ↓reduceIte, reduceCtorEq, Nat.reduceEqDiff, Nat.reduceAdd, Nat.reduceSub, Nat.reduceMul, Nat.reduceLT, Nat.reduceLeDiff, Int.reduceEq, Int.reduceLT, Int.reduceLE, Int.reduceAdd, Int.reduceSub, Int.reduceNeg, Int.reduceToNat]); (fail_if_success (with_reducible change False))) | ((with_reducible refine cQ (utf_Scan b i (by omega) hb) ?_); (simp (disch := omega) only [push_cast, ↓z1, ↓z2, ↓z3, ↓z4, ↓z5, ↓z6, ↓z7, ↓z8, ↓z9, ↓z10, ↓z11, ↓z12, ↓z13, ↓z14, ↓z15, ↓z16, ↓z17, ↓z18, ↓z19, ↓z20, ↓z21, ↓z22, ↓z23, ↓z24, ↓z25, ↓z26, ↓z27, ↓z28, ↓z29, ↓z30, ↓z31, ↓z32, ↓z33, ↓reduceIte, reduceCtorEq, Nat.reduceEqDiff, Nat.reduceAdd, Nat.reduceSub, Nat.reduceMul, Nat.reduceLT, Nat.reduceLeDiff, Int.reduceEq, Int.reduceLT, Int.reduceLE, Int.reduceAdd, Int.reduceSub, Int.reduceNeg, Int.reduceToNat]); (fail_if_success (with_reducible change False))) | ((with_reducible refine cG (utf_Scan b i (by omega) hb) ?_); (simp (disch := omega) only [push_cast, ↓z1, ↓z2, ↓z3, ↓z4, ↓z5, ↓z6, ↓z7, ↓z8, ↓z9, ↓z10, ↓z11, ↓z12, ↓z13, ↓z14, ↓z15, ↓z16, ↓z17, ↓z18, ↓z19, ↓z20, ↓z21, ↓z22, ↓z23, ↓z24, ↓z25, ↓z26, ↓z27, ↓z28, ↓z29, ↓z30, ↓z31, ↓z32, ↓z33, ↓reduceIte, reduceCtorEq, Nat.reduceEqDiff, Nat.reduceAdd, Nat.reduceSub, Nat.reduceMul, Nat.reduceLT, Nat.reduceLeDiff, Int.reduceEq, Int.reduceLT, Int.reduceLE, Int.reduceAdd, Int.reduceSub, Int.reduceNeg, Int.reduceToNat]); (fail_if_success (with_reducible change False))) | omega | (with_reducible intro _)))
  · have hd : b.drop i ≠ [] := by simp; omega
    have hz := scan_size hd
    have hz2 : (b.drop i).length = b.length - i := by simp
    rw [scanI_at (by omega)]
    refine ⟨(i + (scanR tableL (b.drop i) 1).2.1, l ++ [(scanR tableL (b.drop i) 1).1]), ?_⟩
    rw [repair_step hd, List.drop_drop] at hr
    (repeat' (first | (simp (disch := omega) only [push_cast, ↓z1, ↓z2, ↓z3, ↓z4, ↓z5, ↓z6, ↓z7, ↓z8, ↓z9, ↓z10, ↓z11, ↓z12, ↓z13, ↓z14, ↓z15, ↓z16, ↓z17, ↓z18, ↓z19, ↓z20, ↓z21, ↓z22, ↓z23, ↓z24, ↓z25, ↓z26, ↓z27, ↓z28, ↓z29, ↓z30, ↓z31, ↓z32, ↓z33, ↓reduceIte, reduceCtorEq, Nat.reduceEqDiff, Nat.reduceAdd, Nat.reduceSub, Nat.reduceMul, Nat.reduceLT, Nat.reduceLeDiff, Int.reduceEq, Int.reduceLT, Int.reduceLE, Int.reduceAdd, Int.reduceSub, Int.reduceNeg, Int.reduceToNat]) | (with_reducible refine And.intro ?_ ?_) | (with_reducible refine condW_split ?_ ?_ <;> intro hc <;> (try simp only [push_cast] at hc)) | (with_reducible refine guardW_split ?_ ?_ <;> intro hc <;> (try simp only [push_cast] at hc)) | omega | (with_reducible intro _)))
  · obtain rfl : i = b.length := by omega
    rw [List.drop_length] at hr
    rw [hr]
    simp [repairI, repairF]
theorem utf_Decode (b : List Int) (hl : b.length ≤ 1000000000000) (hb : ∀ x ∈ b, 0 ≤ x ∧ x ≤ 255) : PC Try.prog 20 [bytesV b] (.tup [runesV (if validI b then repairI b else []), .bool (validI b)]) := by
  refine pc_w' c_utf_Decode ?_
  unfold B_utf_Decode
  (repeat' (first | (simp (disch := omega) only [push_cast, ↓z1, ↓z2, ↓z3, ↓z4, ↓z5, ↓z6, ↓z7, ↓z8, ↓z9, ↓z10, ↓z11, ↓z12, ↓z13, ↓z14, ↓z15, ↓z16, ↓z17, ↓z18, ↓z19, ↓z20, ↓z21, ↓z22, ↓z23, ↓z24, ↓z25, ↓z26, ↓z27, ↓z28, ↓z29, ↓z30, ↓z31, ↓z32, ↓z33, ↓reduceIte, reduceCtorEq, Nat.reduceEqDiff, Nat.reduceAdd, Nat.reduceSub, Nat.reduceMul, Nat.reduceLT, Nat.reduceLeDiff, Int.reduceEq, Int.reduceLT, Int.reduceLE, Int.reduceAdd, Int.reduceSub, Int.reduceNeg, Int.reduceToNat]) | (with_reducible refine And.intro ?_ ?_) | (with_reducible refine condW_split ?_ ?_ <;> intro hc <;> (try simp only [push_cast] at hc)) | (with_reducible refine guardW_split ?_ ?_ <;> intro hc <;> (try simp only [push_cast] at hc)) | omega | (with_reducible intro _)))
  refine LoopK_T (T_loopR (fun (s : Nat × List Int) => s.1 ≤ b.length ∧ s.2.length ≤ s.1 ∧ repairI b = s.2 ++ repairI (b.drop s.1) ∧ validI b = validI (b.drop s.1)) (fun s => b.length - s.1)
    (fun s => [(0, bytesV b), (4, .ref 0 1 0 s.2.length), (5, .int .i64 s.1)]) (fun s => [⟨1, 1, false, s.2.map (AV.int .i32)⟩]) (fun env _ => [srcOf 1 (env 4)]) (0, []) (by simp) ?_ ?_)
  · (repeat' (first | (simp (disch := omega) only [push_cast, ↓z1, ↓z2, ↓z3, ↓z4, ↓z5, ↓z6, ↓z7, ↓z8, ↓z9, ↓z10, ↓z11, ↓z12, ↓z13, ↓z14, ↓z15, ↓z16, ↓z17, ↓z18, ↓z19, ↓z20, ↓z21, ↓z22, ↓z23, ↓z24, ↓z25, ↓z26, ↓z27, ↓z28, ↓z29, ↓z30, ↓z31, ↓z32, ↓z33, ↓reduceIte, reduceCtorEq, Nat.reduceEqDiff, Nat.reduceAdd, Nat.reduceSub, Nat.reduceMul, Nat.reduceLT, Nat.reduceLeDiff, Int.reduceEq, Int.reduceLT, Int.reduceLE, Int.reduceAdd, Int.reduceSub, Int.reduceNeg, Int.reduceToNat]) | (with_reducible refine And.intro ?_ ?_) | (with_reducible refine condW_split ?_ ?_ <;> intro hc <;> (try simp only [push_cast] at hc)) | (with_reducible refine guardW_split ?_ ?_ <;> intro hc <;> (try simp only [push_cast] at hc)) | omega | (with_reducible intro _)))
  rintro ⟨i, l⟩ ⟨hi, hll, hr, hv⟩
  simp only at hi hll hr hv
  refine W_T ?_
  (repeat' (first | (simp (disch := omega) only [push_cast, ↓z1, ↓z2, ↓z3, ↓z4, ↓z5, ↓z6, ↓z7, ↓z8, ↓z9, ↓z10, ↓z11, ↓z12, ↓z13, ↓z14, ↓z15, ↓z16, ↓z17, ↓z18, ↓z19, ↓z20, ↓z21, ↓z22, ↓z23, ↓z24, ↓z25, ↓z26, ↓z27, ↓z28, ↓z29, ↓z30, ↓z31, ↓z32, ↓z33, ↓reduceIte, reduceCtorEq, Nat.reduceEqDiff, Nat.reduceAdd, Nat.reduceSub, Nat.reduceMul, Nat.reduceLT, Nat.reduceLeDiff, Int.reduceEq, Int.reduceLT, Int.reduceLE, Int.reduceAdd, Int.reduceSub, Int.reduceNeg, Int.reduceToNat]) | (with_reducible refine And.intro ?_ ?_) | (with_reducible refine condW_split ?_ ?_ <;> intro hc <;> (try simp only [push_cast] at hc)) | (with_reducible refine guardW_split ?_ ?_ <;> intro hc <;> (try simp only [push_cast] at hc)) | (with_reducible refine eK (utf_Scan b i (by omega) hb) ?_) | (with_reducible refine eQ (utf_Scan b i (by omega) hb) ?_) | (with_reducible refine eG (utf_Scan b i (by omega) hb) ?_) | ((with_reducible refine cK (utf_Scan b i (by omega) hb) ?_); (simp (disch := omega) only [push_cast, ↓z1, ↓z2, ↓z3, ↓z4, ↓z5, ↓z6, ↓z7, ↓z8, ↓z9, ↓z10, ↓z11, ↓z12, ↓z13, ↓z14, ↓z15, ↓z16, ↓z17, ↓z18, ↓z19, ↓z20, ↓z21, ↓z22, ↓z23, ↓z24, ↓z25, ↓z26, ↓z27, ↓z28, ↓z29, ↓z30, ↓z31, ↓z32, ↓z33, ↓reduceIte, reduceCtorEq, Nat.reduceEqDiff, Nat.reduceAdd, Nat.reduceSub, Nat.reduceMul, Nat.reduceLT, Nat.reduceLeDiff, Int.reduceEq, Int.reduceLT, Int.reduceLE, Int.reduceAdd, Int.reduceSub, Int.reduceNeg, Int.reduceToNat]); (fail_if_success (with_reducible change False))) | ((with_reducible refine cQ (utf_Scan b i (by omega) hb) ?_); (simp (disch := omega) only [push_cast, ↓z1, ↓z2, ↓z3, ↓z4, ↓z5, ↓z6, ↓z7, ↓z8, ↓z9, ↓z10, ↓z11, ↓z12, ↓z13, ↓z14, ↓z15, ↓z16, ↓z17, ↓z18, ↓z19, ↓z20, ↓z21, ↓z22, ↓z23, ↓z24, ↓z25, ↓z26, ↓z27, ↓z28, ↓z29, ↓z30, ↓z31, ↓z32, ↓z33, ↓reduceIte, reduceCtorEq, Nat.reduceEqDiff, Nat.reduceAdd, Nat.reduceSub, Nat.reduceMul, Nat.reduceLT, Nat.reduceLeDiff, Int.reduceEq, Int.reduceLT, Int.reduceLE, Int.reduceAdd, Int.reduceSub, Int.reduceNeg, Int.reduceToNat]); (fail_if_success (with_reducible change False))) | ((with_reducible refine cG (utf_Scan b i (by omega) hb) ?_); (simp (disch := omega) only [push_cast, ↓z1, ↓z2, ↓z3, ↓z4, ↓z5, ↓z6, ↓z7, ↓z8, ↓z9, ↓z10, ↓z11, ↓z12, ↓z13, ↓z14, ↓z15, ↓z16, ↓z17, ↓z18, ↓z19, ↓z20, ↓z21, ↓z22, ↓z23, ↓z24, ↓z25, ↓z26, ↓z27, ↓z28, ↓z29, ↓z30, ↓z31, ↓z32, ↓z33, ↓reduceIte, reduceCtorEq, Nat.reduceEqDiff, Nat.reduceAdd, Nat.reduceSub, Nat.reduceMul, Nat.reduceLT, Nat.reduceLeDiff, Int.reduceEq, Int.reduceLT, Int.reduceLE, Int.reduceAdd, Int.reduceSub, Int.reduceNeg, Int.reduceToNat]); (fail_if_success (with_reducible change False))) | omega | (with_reducible intro _)))
  · have hd : b.drop i ≠ [] := by simp; omega
    have hf : (scanR tableL (b.drop i) 1).2.2 = false := by rw [← scanI_at (by omega)]; assumption
    rw [valid_step hd, hf, Bool.false_and] at hv
    rw [hv]
    simp only [Bool.false_eq_true, ↓reduceIte]
    (repeat' (first | (simp (disch := omega) only [push_cast, ↓z1, ↓z2, ↓z3, ↓z4, ↓z5, ↓z6, ↓z7, ↓z8, ↓z9, ↓z10, ↓z11, ↓z12, ↓z13, ↓z14, ↓z15, ↓z16, ↓z17, ↓z18, ↓z19, ↓z20, ↓z21, ↓z22, ↓z23, ↓z24, ↓z25, ↓z26, ↓z27, ↓z28, ↓z29, ↓z30, ↓z31, ↓z32, ↓z33, ↓reduceIte, reduceCtorEq, Nat.reduceEqDiff, Nat.reduceAdd, Nat.reduceSub, Nat.reduceMul, Nat.reduceLT, Nat.reduceLeDiff, Int.reduceEq, Int.reduceLT, Int.reduceLE, Int.reduceAdd, Int.reduceSub, Int.reduceNeg, Int.reduceToNat, an_tup]) | omega | (with_reducible refine And.intro ?_ ?_)))
  · have hd : b.drop i ≠ [] := by simp; omega
    have hz := scan_size hd
    have hz2 : (b.drop i).length = b.length - i := by simp
    have hf : (scanR tableL (b.drop i) 1).2.2 = true := by rw [← scanI_at (by omega)]; assumption
    rw [scanI_at (by omega)]
    refine ⟨(i + (scanR tableL (b.drop i) 1).2.1, l ++ [(scanR tableL (b.drop i) 1).1]), ?_⟩
    rw [repair_step hd, List.drop_drop] at hr
    rw [valid_step hd, hf, Bool.true_and, List.drop_drop] at hv
    (repeat' (first | (simp (disch := omega) only [push_cast, ↓z1, ↓z2, ↓z3, ↓z4, ↓z5, ↓z6, ↓z7, ↓z8, ↓z9, ↓z10, ↓z11, ↓z12, ↓z13, ↓z14, ↓z15, ↓z16, ↓z17, ↓z18, ↓z19, ↓z20, ↓z21, ↓z22, ↓z23, ↓z24, ↓z25, ↓z26, ↓z27, ↓z28, ↓z29, ↓z30, ↓z31, ↓z32, ↓z33, ↓reduceIte, reduceCtorEq, Nat.reduceEqDiff, Nat.reduceAdd, Nat.reduceSub, Nat.reduceMul, Nat.reduceLT, Nat.reduceLeDiff, Int.reduceEq, Int.reduceLT, Int.reduceLE, Int.reduceAdd, Int.reduceSub, Int.reduceNeg, Int.reduceToNat]) | (with_reducible refine And.intro ?_ ?_) | (with_reducible refine condW_split ?_ ?_ <;> intro hc <;> (try simp only [push_cast] at hc)) | (with_reducible refine guardW_split ?_ ?_ <;> intro hc <;> (try simp only [push_cast] at hc)) | omega | (with_reducible intro _)))
  · obtain rfl : i = b.length := by omega
    rw [List.drop_length] at hr hv
    have h1 : validI b = true := by rw [hv]; rfl
    have h2 : repairI b = l := by rw [hr]; simp [repairI, repairF]
    rw [h1, h2]
    simp only [↓reduceIte]
    (repeat' (first | (simp (disch := omega) only [push_cast, ↓z1, ↓z2, ↓z3, ↓z4, ↓z5, ↓z6, ↓z7, ↓z8, ↓z9, ↓z10, ↓z11, ↓z12, ↓z13, ↓z14, ↓z15, ↓z16, ↓z17, ↓z18, ↓z19, ↓z20, ↓z21, ↓z22, ↓z23, ↓z24, ↓z25, ↓z26, ↓z27, ↓z28, ↓z29, ↓z30, ↓z31, ↓z32, ↓z33, ↓reduceIte, reduceCtorEq, Nat.reduceEqDiff, Nat.reduceAdd, Nat.reduceSub, Nat.reduceMul, Nat.reduceLT, Nat.reduceLeDiff, Int.reduceEq, Int.reduceLT, Int.reduceLE, Int.reduceAdd, Int.reduceSub, Int.reduceNeg, Int.reduceToNat, an_tup]) | omega | (with_reducible refine And.intro ?_ ?_)))
theorem utf_Valid (b : List Int) (hl : b.length ≤ 1000000000000) (hb : ∀ x ∈ b, 0 ≤ x ∧ x ≤ 255) : PC Try.prog 21 [bytesV b] (.bool (validI b)) := by
  refine pc_w' c_utf_Valid ?_
  unfold B_utf_Valid
  (repeat' (first | (simp (disch := omega) only [push_cast, ↓z1, ↓z2, ↓z3, ↓z4, ↓z5, ↓z6, ↓z7, ↓z8, ↓z9, ↓z10, ↓z11, ↓z12, ↓z13, ↓z14, ↓z15, ↓z16, ↓z17, ↓z18, ↓z19, ↓z20, ↓z21, ↓z22, ↓z23, ↓z24, ↓z25, ↓z26, ↓z27, ↓z28, ↓z29, ↓z30, ↓z31, ↓z32, ↓z33, ↓reduceIte, reduceCtorEq, Nat.reduceEqDiff, Nat.reduceAdd, Nat.reduceSub, Nat.reduceMul, Nat.reduceLT, Nat.reduceLeDiff, Int.reduceEq, Int.reduceLT, Int.reduceLE, Int.reduceAdd, Int.reduceSub, Int.reduceNeg, Int.reduceToNat]) | (with_reducible refine And.intro ?_ ?_) | (with_reducible refine condW_split ?_ ?_ <;> intro hc <;> (try simp only [push_cast] at hc)) | (with_reducible refine guardW_split ?_ ?_ <;> intro hc <;> (try simp only [push_cast] at hc)) | (with_reducible refine eK (utf_Decode b hl hb) ?_) | (with_reducible refine eQ (utf_Decode b hl hb) ?_) | (with_reducible refine eG (utf_Decode b hl hb) ?_) | ((with_reducible refine cK (utf_Decode b hl hb) ?_); (simp (disch := omega) only [push_cast, ↓z1, ↓z2, ↓z3, ↓z4, ↓z5, ↓z6, ↓z7, ↓z8, ↓z9, ↓z10, ↓z11, ↓z12, ↓z13, ↓z14, ↓z15, ↓z16, ↓z17, ↓z18, ↓z19, ↓z20, ↓z21, ↓z22, ↓z23, ↓z24, ↓z25, ↓z26, ↓z27, ↓z28, ↓z29, ↓z30, ↓z31, ↓z32, ↓z33, ↓reduceIte, reduceCtorEq, Nat.reduceEqDiff, Nat.reduceAdd, Nat.reduceSub, Nat.reduceMul, Nat.reduceLT, Nat.reduceLeDiff, Int.reduceEq, Int.reduceLT, Int.reduceLE, Int.reduceAdd, Int.reduceSub, Int.reduceNeg, Int.reduceToNat]); (fail_if_success (with_reducible change False))) | ((with_reducible refine cQ (utf_Decode b hl hb) ?_); (simp (disch := omega) only [push_cast, ↓z1, ↓z2, ↓z3, ↓z4, ↓z5, ↓z6, ↓z7, ↓z8, ↓z9, ↓z10, ↓z11, ↓z12, ↓z13, ↓z14, ↓z15, ↓z16, ↓z17, ↓z18, ↓z19, ↓z20, ↓z21, ↓z22, ↓z23, ↓z24, ↓z25, ↓z26, ↓z27, ↓z28, ↓z29, ↓z30, ↓z31, ↓z32, ↓z33, ↓reduceIte, reduceCtorEq, Nat.reduceEqDiff, Nat.reduceAdd, Nat.reduceSub, Nat.reduceMul, Nat.reduceLT, Nat.reduceLeDiff, Int.reduceEq, Int.reduceLT, Int.reduceLE, Int.reduceAdd, Int.reduceSub, Int.reduceNeg, Int.reduceToNat]); (fail_if_success (with_reducible change False))) | ((with_reducible refine cG (utf_Decode b hl hb) ?_); (simp (disch := omega) only [push_cast, ↓z1, ↓z2, ↓z3, ↓z4, ↓z5, ↓z6, ↓z7, ↓z8, ↓z9, ↓z10, ↓z11, ↓z12, ↓z13, ↓z14, ↓z15, ↓z16, ↓z17, ↓z18, ↓z19, ↓z20, ↓z21, ↓z22, ↓z23, ↓z24, ↓z25, ↓z26, ↓z27, ↓z28, ↓z29, ↓z30, ↓z31, ↓z32, ↓z33, ↓reduceIte, reduceCtorEq, Nat.reduceEqDiff, Nat.reduceAdd, Nat.reduceSub, Nat.reduceMul, Nat.reduceLT, Nat.reduceLeDiff, Int.reduceEq, Int.reduceLT, Int.reduceLE, Int.reduceAdd, Int.reduceSub, Int.reduceNeg, Int.reduceToNat]); (fail_if_success (with_reducible change False))) | omega | (with_reducible intro _)))
theorem awake_r1 : repairI [97, 226, 130, 98] = [97, 65533, 98] := by decide
theorem awake_r2 : repairI [240, 128, 128] = [65533, 65533, 65533] := by decide
theorem law10_awake : PC Try.prog 13 [] (.bool true) := by
  have h1 := utf_Repair [97, 226, 130, 98] (by decide) (by decide)
  have h2 := utf_Repair [240, 128, 128] (by decide) (by decide)
  have h3 := utf_Encode 252
  rw [awake_r1] at h1
  rw [awake_r2] at h2
  rw [show encL 252 = [195, 188] from by decide] at h3
  refine pc_w' c_law10_awake ?_
  unfold B_law10_awake
  (repeat' (first | (simp (disch := omega) only [push_cast, ↓z1, ↓z2, ↓z3, ↓z4, ↓z5, ↓z6, ↓z7, ↓z8, ↓z9, ↓z10, ↓z11, ↓z12, ↓z13, ↓z14, ↓z15, ↓z16, ↓z17, ↓z18, ↓z19, ↓z20, ↓z21, ↓z22, ↓z23, ↓z24, ↓z25, ↓z26, ↓z27, ↓z28, ↓z29, ↓z30, ↓z31, ↓z32, ↓z33, ↓reduceIte, reduceCtorEq, Nat.reduceEqDiff, Nat.reduceAdd, Nat.reduceSub, Nat.reduceMul, Nat.reduceLT, Nat.reduceLeDiff, Int.reduceEq, Int.reduceLT, Int.reduceLE, Int.reduceAdd, Int.reduceSub, Int.reduceNeg, Int.reduceToNat, List.cons.injEq, AV.int.injEq, true_and, and_true, and_false, false_and]) | (with_reducible refine And.intro ?_ ?_) | (with_reducible refine condW_split ?_ ?_ <;> intro hc <;> (try simp only [push_cast] at hc)) | (with_reducible refine guardW_split ?_ ?_ <;> intro hc <;> (try simp only [push_cast] at hc)) | (with_reducible refine eK (h1) ?_) | (with_reducible refine eQ (h1) ?_) | (with_reducible refine eG (h1) ?_) | (with_reducible refine eK (h2) ?_) | (with_reducible refine eQ (h2) ?_) | (with_reducible refine eG (h2) ?_) | (with_reducible refine eK (h3) ?_) | (with_reducible refine eQ (h3) ?_) | (with_reducible refine eG (h3) ?_) | ((with_reducible refine cK (h1) ?_); (simp (disch := omega) only [push_cast, ↓z1, ↓z2, ↓z3, ↓z4, ↓z5, ↓z6, ↓z7, ↓z8, ↓z9, ↓z10, ↓z11, ↓z12, ↓z13, ↓z14, ↓z15, ↓z16, ↓z17, ↓z18, ↓z19, ↓z20, ↓z21, ↓z22, ↓z23, ↓z24, ↓z25, ↓z26, ↓z27, ↓z28, ↓z29, ↓z30, ↓z31, ↓z32, ↓z33, ↓reduceIte, reduceCtorEq, Nat.reduceEqDiff, Nat.reduceAdd, Nat.reduceSub, Nat.reduceMul, Nat.reduceLT, Nat.reduceLeDiff, Int.reduceEq, Int.reduceLT, Int.reduceLE, Int.reduceAdd, Int.reduceSub, Int.reduceNeg, Int.reduceToNat, List.cons.injEq, AV.int.injEq, true_and, and_true, and_false, false_and]); (fail_if_success (with_reducible change False))) | ((with_reducible refine cQ (h1) ?_); (simp (disch := omega) only [push_cast, ↓z1, ↓z2, ↓z3, ↓z4, ↓z5, ↓z6, ↓z7, ↓z8, ↓z9, ↓z10, ↓z11, ↓z12, ↓z13, ↓z14, ↓z15, ↓z16, ↓z17, ↓z18, ↓z19, ↓z20, ↓z21, ↓z22, ↓z23, ↓z24, ↓z25, ↓z26, ↓z27, ↓z28, ↓z29, ↓z30, ↓z31, ↓z32, ↓z33, ↓reduceIte, reduceCtorEq, Nat.reduceEqDiff, Nat.reduceAdd, Nat.reduceSub, Nat.reduceMul, Nat.reduceLT, Nat.reduceLeDiff, Int.reduceEq, Int.reduceLT, Int.reduceLE, Int.reduceAdd, Int.reduceSub, Int.reduceNeg, Int.reduceToNat, List.cons.injEq, AV.int.injEq, true_and, and_true, and_false, false_and]); (fail_if_success (with_reducible change False))) | ((with_reducible refine cG (h1) ?_); (simp (disch := omega) only [push_cast, ↓z1, ↓z2, ↓z3, ↓z4, ↓z5, ↓z6, ↓z7, ↓z8, ↓z9, ↓z10, ↓z11, ↓z12, ↓z13, ↓z14, ↓z15, ↓z16, ↓z17, ↓z18, ↓z19, ↓z20, ↓z21, ↓z22, ↓z23, ↓z24, ↓z25, ↓z26, ↓z27, ↓z28, ↓z29, ↓z30, ↓z31, ↓z32, ↓z33, ↓reduceIte, reduceCtorEq, Nat.reduceEqDiff, Nat.reduceAdd, Nat.reduceSub, Nat.reduceMul, Nat.reduceLT, Nat.reduceLeDiff, Int.reduceEq, Int.reduceLT, Int.reduceLE, Int.reduceAdd, Int.reduceSub, Int.reduceNeg, Int.reduceToNat, List.cons.injEq, AV.int.injEq, true_and, and_true, and_false, false_and]); (fail_if_success (with_reducible change False))) | ((with_reducible refine cK (h2) ?_); (simp (disch := omega) only [push_cast, ↓z1, ↓z2, ↓z3, ↓z4, ↓z5, ↓z6, ↓z7, ↓z8, ↓z9, ↓z10, ↓z11, ↓z12, ↓z13, ↓z14, ↓z15, ↓z16, ↓z17, ↓z18, ↓z19, ↓z20, ↓z21, ↓z22, ↓z23, ↓z24, ↓z25, ↓z26, ↓z27, ↓z28, ↓z29, ↓z30, ↓z31, ↓z32, ↓z33, ↓reduceIte, reduceCtorEq, Nat.reduceEqDiff, Nat.reduceAdd, Nat.reduceSub, Nat.reduceMul, Nat.reduceLT, Nat.reduceLeDiff, Int.reduceEq, Int.reduceLT, Int.reduceLE, Int.reduceAdd, Int.reduceSub, Int.reduceNeg, Int.reduceToNat, List.cons.injEq, AV.int.injEq, true_and, and_true, and_false, false_and]); (fail_if_success (with_reducible change False))) | ((with_reducible refine cQ (h2) ?_); (simp (disch := omega) only [push_cast, ↓z1, ↓z2, ↓z3, ↓z4, ↓z5, ↓z6, ↓z7, ↓z8, ↓z9, ↓z10, ↓z11, ↓z12, ↓z13, ↓z14, ↓z15, ↓z16, ↓z17, ↓z18, ↓z19, ↓z20, ↓z21, ↓z22, ↓z23, ↓z24, ↓z25, ↓z26, ↓z27, ↓z28, ↓z29, ↓z30, ↓z31, ↓z32, ↓z33, ↓reduceIte, reduceCtorEq, Nat.reduceEqDiff, Nat.reduceAdd, Nat.reduceSub, Nat.reduceMul, Nat.reduceLT, Nat.reduceLeDiff, Int.reduceEq, Int.reduceLT, Int.reduceLE, Int.reduceAdd, Int.reduceSub, Int.reduceNeg, Int.reduceToNat, List.cons.injEq, AV.int.injEq, true_and, and_true, and_false, false_and]); (fail_if_success (with_reducible change False))) | ((with_reducible refine cG (h2) ?_); (simp (disch := omega) only [push_cast, ↓z1, ↓z2, ↓z3, ↓z4, ↓z5, ↓z6, ↓z7, ↓z8, ↓z9, ↓z10, ↓z11, ↓z12, ↓z13, ↓z14, ↓z15, ↓z16, ↓z17, ↓z18, ↓z19, ↓z20, ↓z21, ↓z22, ↓z23, ↓z24, ↓z25, ↓z26, ↓z27, ↓z28, ↓z29, ↓z30, ↓z31, ↓z32, ↓z33, ↓reduceIte, reduceCtorEq, Nat.reduceEqDiff, Nat.reduceAdd, Nat.reduceSub, Nat.reduceMul, Nat.reduceLT, Nat.reduceLeDiff, Int.reduceEq, Int.reduceLT, Int.reduceLE, Int.reduceAdd, Int.reduceSub, Int.reduceNeg, Int.reduceToNat, List.cons.injEq, AV.int.injEq, true_and, and_true, and_false, false_and]); (fail_if_success (with_reducible change False))) | ((with_reducible refine cK (h3) ?_); (simp (disch := omega) only [push_cast, ↓z1, ↓z2, ↓z3, ↓z4, ↓z5, ↓z6, ↓z7, ↓z8, ↓z9, ↓z10, ↓z11, ↓z12, ↓z13, ↓z14, ↓z15, ↓z16, ↓z17, ↓z18, ↓z19, ↓z20, ↓z21, ↓z22, ↓z23, ↓z24, ↓z25, ↓z26, ↓z27, ↓z28, ↓z29, ↓z30, ↓z31, ↓z32, ↓z33, ↓reduceIte, reduceCtorEq, Nat.reduceEqDiff, Nat.reduceAdd, Nat.reduceSub, Nat.reduceMul, Nat.reduceLT, Nat.reduceLeDiff, Int.reduceEq, Int.reduceLT, Int.reduceLE, Int.reduceAdd, Int.reduceSub, Int.reduceNeg, Int.reduceToNat, List.cons.injEq, AV.int.injEq, true_and, and_true, and_false, false_and]); (fail_if_success (with_reducible change False))) | ((with_reducible refine cQ (h3) ?_); (simp (disch := omega) only [push_cast, ↓z1, ↓z2, ↓z3, ↓z4, ↓z5, ↓z6, ↓z7, ↓z8, ↓z9, ↓z10, ↓z11, ↓z12, ↓z13, ↓z14, ↓z15, ↓z16, ↓z17, ↓z18, ↓z19, ↓z20, ↓z21, ↓z22, ↓z23, ↓z24, ↓z25, ↓z26, ↓z27, ↓z28, ↓z29, ↓z30, ↓z31, ↓z32, ↓z33, ↓reduceIte, reduceCtorEq, Nat.reduceEqDiff, Nat.reduceAdd, Nat.reduceSub, Nat.reduceMul, Nat.reduceLT, Nat.reduceLeDiff, Int.reduceEq, Int.reduceLT, Int.reduceLE, Int.reduceAdd, Int.reduceSub, Int.reduceNeg, Int.reduceToNat, List.cons.injEq, AV.int.injEq, true_and, and_true, and_false, false_and]); (fail_if_success (with_reducible change False))) | ((with_reducible refine cG (h3) ?_); (simp (disch := omega) only [push_cast, ↓z1, ↓z2, ↓z3, ↓z4, ↓z5, ↓z6, ↓z7, ↓z8, ↓z9, ↓z10, ↓z11, ↓z12, ↓z13, ↓z14, ↓z15, ↓z16, ↓z17, ↓z18, ↓z19, ↓z20, ↓z21, ↓z22, ↓z23, ↓z24, ↓z25, ↓z26, ↓z27, ↓z28, ↓z29, ↓z30, ↓z31, ↓z32, ↓z33, ↓reduceIte, reduceCtorEq, Nat.reduceEqDiff, Nat.reduceAdd, Nat.reduceSub, Nat.reduceMul, Nat.reduceLT, Nat.reduceLeDiff, Int.reduceEq, Int.reduceLT, Int.reduceLE, Int.reduceAdd, Int.reduceSub, Int.reduceNeg, Int.reduceToNat, List.cons.injEq, AV.int.injEq, true_and, and_true, and_false, false_and]); (fail_if_success (with_reducible change False))) | omega | (with_reducible intro _)))
  all_goals exact ⟨[195, 188], rfl, rfl⟩
end Go.Proofs.Ytdmjhlofphhldaa
