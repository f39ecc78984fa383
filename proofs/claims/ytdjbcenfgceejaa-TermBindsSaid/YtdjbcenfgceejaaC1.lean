/-
  Contracts of layers 2, 3: sorts; parts.
-/
import Derived.Test.YtdjbcenfgceejaaFns2
import Derived.Test.YtdjbcenfgceejaaC0
set_option linter.unusedSimpArgs false
set_option linter.unusedVariables false
namespace Go.Proofs.Ytdjbcenfgceejaa
open Abs
def domL (s : Int) : List Span := if s = 1 then [⟨0, 255⟩] else if s = 2 then [⟨0, 55295⟩, ⟨57344, 1114111⟩] else []
theorem part_Whole (a : Int) : PC Try.prog 39 [.int .i64 a] (partV ⟨a, 0, 21, 0⟩) := by
  refine pc_w' c_part_Whole ?_
  unfold B_part_Whole
  (repeat' (first | (simp (disch := omega) only [push_cast, ↓z1, ↓z2, ↓z3, ↓z4, ↓z5, ↓z6, ↓z7, ↓z8, ↓z9, ↓z10, ↓z11, ↓z12, ↓z13, ↓z14, ↓z15, ↓z16, ↓z17, ↓z18, ↓z19, ↓z20, ↓z21, ↓z22, ↓z23, ↓z24, ↓z25, ↓z26, ↓z27, ↓z28, ↓z29, ↓z30, ↓z31, ↓z32, ↓z33, ↓reduceIte, reduceCtorEq, Nat.reduceEqDiff, Nat.reduceAdd, Nat.reduceSub, Nat.reduceMul, Nat.reduceLT, Nat.reduceLeDiff, Int.reduceEq, Int.reduceLT, Int.reduceLE, Int.reduceAdd, Int.reduceSub, Int.reduceNeg, Int.reduceToNat]) | (with_reducible refine And.intro ?_ ?_) | (with_reducible refine condW_split ?_ ?_ <;> intro hc <;> (try simp only [push_cast] at hc)) | (with_reducible refine guardW_split ?_ ?_ <;> intro hc <;> (try simp only [push_cast] at hc)) | omega | (with_reducible intro _)))
def bitsB (p : Part) : Bool := decide (0 ≤ p.drop ∧ p.drop < 21 ∧ 1 ≤ p.take ∧ p.take ≤ 21 ∧ 0 ≤ p.up ∧ p.up < 21 ∧ (p.up = 0 ∨ p.take ≤ 6))
theorem part_bits (p : Part) : PC Try.prog 76 [partV p] (.bool (bitsB p)) := by
  refine pc_w' c_part_bits ?_
  unfold B_part_bits
  (repeat' (first | (simp (disch := omega) only [push_cast, ↓z1, ↓z2, ↓z3, ↓z4, ↓z5, ↓z6, ↓z7, ↓z8, ↓z9, ↓z10, ↓z11, ↓z12, ↓z13, ↓z14, ↓z15, ↓z16, ↓z17, ↓z18, ↓z19, ↓z20, ↓z21, ↓z22, ↓z23, ↓z24, ↓z25, ↓z26, ↓z27, ↓z28, ↓z29, ↓z30, ↓z31, ↓z32, ↓z33, ↓reduceIte, reduceCtorEq, Nat.reduceEqDiff, Nat.reduceAdd, Nat.reduceSub, Nat.reduceMul, Nat.reduceLT, Nat.reduceLeDiff, Int.reduceEq, Int.reduceLT, Int.reduceLE, Int.reduceAdd, Int.reduceSub, Int.reduceNeg, Int.reduceToNat]) | (with_reducible refine And.intro ?_ ?_) | (with_reducible refine condW_split ?_ ?_ <;> intro hc <;> (try simp only [push_cast] at hc)) | (with_reducible refine guardW_split ?_ ?_ <;> intro hc <;> (try simp only [push_cast] at hc)) | omega | (with_reducible intro _)))
  all_goals (unfold bitsB; first | (refine tt_dec ?_; omega) | (refine ff_dec ?_; omega) | (refine dec_dec ?_; omega))
theorem ref_Bits (p : Part) : PC Try.prog 77 [partV p] (.bool (bitsB p)) := by
  refine pc_w' c_ref03_Bits ?_
  unfold B_ref03_Bits
  (repeat' (first | (simp (disch := omega) only [push_cast, ↓z1, ↓z2, ↓z3, ↓z4, ↓z5, ↓z6, ↓z7, ↓z8, ↓z9, ↓z10, ↓z11, ↓z12, ↓z13, ↓z14, ↓z15, ↓z16, ↓z17, ↓z18, ↓z19, ↓z20, ↓z21, ↓z22, ↓z23, ↓z24, ↓z25, ↓z26, ↓z27, ↓z28, ↓z29, ↓z30, ↓z31, ↓z32, ↓z33, ↓reduceIte, reduceCtorEq, Nat.reduceEqDiff, Nat.reduceAdd, Nat.reduceSub, Nat.reduceMul, Nat.reduceLT, Nat.reduceLeDiff, Int.reduceEq, Int.reduceLT, Int.reduceLE, Int.reduceAdd, Int.reduceSub, Int.reduceNeg, Int.reduceToNat]) | (with_reducible refine And.intro ?_ ?_) | (with_reducible refine condW_split ?_ ?_ <;> intro hc <;> (try simp only [push_cast] at hc)) | (with_reducible refine guardW_split ?_ ?_ <;> intro hc <;> (try simp only [push_cast] at hc)) | omega | (with_reducible intro _)))
  all_goals (unfold bitsB; first | (refine tt_dec ?_; omega) | (refine ff_dec ?_; omega) | (refine dec_dec ?_; omega))
def rightB (p : Part) (n : Int) : Bool := decide (0 ≤ p.at_ ∧ p.at_ < n) && bitsB p
theorem part_Right (p : Part) (n : Int) : PC Try.prog 42 [partV p, .int .i64 n] (.bool (rightB p n)) := by
  refine pc_w' c_part_Right ?_
  unfold B_part_Right
  (repeat' (first | (simp (disch := omega) only [push_cast, ↓z1, ↓z2, ↓z3, ↓z4, ↓z5, ↓z6, ↓z7, ↓z8, ↓z9, ↓z10, ↓z11, ↓z12, ↓z13, ↓z14, ↓z15, ↓z16, ↓z17, ↓z18, ↓z19, ↓z20, ↓z21, ↓z22, ↓z23, ↓z24, ↓z25, ↓z26, ↓z27, ↓z28, ↓z29, ↓z30, ↓z31, ↓z32, ↓z33, ↓reduceIte, reduceCtorEq, Nat.reduceEqDiff, Nat.reduceAdd, Nat.reduceSub, Nat.reduceMul, Nat.reduceLT, Nat.reduceLeDiff, Int.reduceEq, Int.reduceLT, Int.reduceLE, Int.reduceAdd, Int.reduceSub, Int.reduceNeg, Int.reduceToNat]) | (with_reducible refine And.intro ?_ ?_) | (with_reducible refine condW_split ?_ ?_ <;> intro hc <;> (try simp only [push_cast] at hc)) | (with_reducible refine guardW_split ?_ ?_ <;> intro hc <;> (try simp only [push_cast] at hc)) | (with_reducible refine eK (part_bits p) ?_) | (with_reducible refine eQ (part_bits p) ?_) | (with_reducible refine eG (part_bits p) ?_) | (with_reducible refine cK (part_bits p) ?_) | (with_reducible refine cQ (part_bits p) ?_) | (with_reducible refine cG (part_bits p) ?_) | omega | (with_reducible intro _)))
  all_goals (simp [rightB, *] <;> omega)
theorem ref03_Right (p : Part) (n : Int) : PC Try.prog 45 [partV p, .int .i64 n] (.bool (rightB p n)) := by
  refine pc_w' c_ref03_Right ?_
  unfold B_ref03_Right
  (repeat' (first | (simp (disch := omega) only [push_cast, ↓z1, ↓z2, ↓z3, ↓z4, ↓z5, ↓z6, ↓z7, ↓z8, ↓z9, ↓z10, ↓z11, ↓z12, ↓z13, ↓z14, ↓z15, ↓z16, ↓z17, ↓z18, ↓z19, ↓z20, ↓z21, ↓z22, ↓z23, ↓z24, ↓z25, ↓z26, ↓z27, ↓z28, ↓z29, ↓z30, ↓z31, ↓z32, ↓z33, ↓reduceIte, reduceCtorEq, Nat.reduceEqDiff, Nat.reduceAdd, Nat.reduceSub, Nat.reduceMul, Nat.reduceLT, Nat.reduceLeDiff, Int.reduceEq, Int.reduceLT, Int.reduceLE, Int.reduceAdd, Int.reduceSub, Int.reduceNeg, Int.reduceToNat]) | (with_reducible refine And.intro ?_ ?_) | (with_reducible refine condW_split ?_ ?_ <;> intro hc <;> (try simp only [push_cast] at hc)) | (with_reducible refine guardW_split ?_ ?_ <;> intro hc <;> (try simp only [push_cast] at hc)) | (with_reducible refine eK (ref_Bits p) ?_) | (with_reducible refine eQ (ref_Bits p) ?_) | (with_reducible refine eG (ref_Bits p) ?_) | (with_reducible refine cK (ref_Bits p) ?_) | (with_reducible refine cQ (ref_Bits p) ?_) | (with_reducible refine cG (ref_Bits p) ?_) | omega | (with_reducible intro _)))
  all_goals (simp [rightB, *] <;> omega)
theorem pow_le (i : Nat) (h : i ≤ 40) : (1 : Int) ≤ 2 ^ i ∧ (2 : Int) ^ i ≤ 1099511627776 :=
  ⟨Int.pow_pos (by decide), by have := Nat.pow_le_pow_right (n := 2) (by decide) h; have e : ((2 ^ i : Nat) : Int) = 2 ^ i := by simp
                               rw [← e]; omega⟩
theorem ref_Two (n : Int) (h : 0 ≤ n ∧ n ≤ 40) : PC Try.prog 78 [.int .i64 n] (.int .i64 (2 ^ n.toNat)) := by
  refine pc_w' c_ref03_Two ?_
  unfold B_ref03_Two
  (repeat' (first | (simp (disch := omega) only [push_cast, ↓z1, ↓z2, ↓z3, ↓z4, ↓z5, ↓z6, ↓z7, ↓z8, ↓z9, ↓z10, ↓z11, ↓z12, ↓z13, ↓z14, ↓z15, ↓z16, ↓z17, ↓z18, ↓z19, ↓z20, ↓z21, ↓z22, ↓z23, ↓z24, ↓z25, ↓z26, ↓z27, ↓z28, ↓z29, ↓z30, ↓z31, ↓z32, ↓z33, ↓reduceIte, reduceCtorEq, Nat.reduceEqDiff, Nat.reduceAdd, Nat.reduceSub, Nat.reduceMul, Nat.reduceLT, Nat.reduceLeDiff, Int.reduceEq, Int.reduceLT, Int.reduceLE, Int.reduceAdd, Int.reduceSub, Int.reduceNeg, Int.reduceToNat]) | (with_reducible refine And.intro ?_ ?_) | (with_reducible refine condW_split ?_ ?_ <;> intro hc <;> (try simp only [push_cast] at hc)) | (with_reducible refine guardW_split ?_ ?_ <;> intro hc <;> (try simp only [push_cast] at hc)) | omega | (with_reducible intro _)))
  refine LoopK_T (T_loopR (fun (i : Nat) => (i : Int) ≤ n) (fun i => n.toNat - i) (fun i => [(0, .int .i64 n), (3, .int .i64 (2 ^ i)), (4, .int .i64 i)]) (fun _ => []) (fun _ _ => []) 0 (by omega) ?_ ?_)
  · (repeat' (first | (simp (disch := omega) only [push_cast, ↓z1, ↓z2, ↓z3, ↓z4, ↓z5, ↓z6, ↓z7, ↓z8, ↓z9, ↓z10, ↓z11, ↓z12, ↓z13, ↓z14, ↓z15, ↓z16, ↓z17, ↓z18, ↓z19, ↓z20, ↓z21, ↓z22, ↓z23, ↓z24, ↓z25, ↓z26, ↓z27, ↓z28, ↓z29, ↓z30, ↓z31, ↓z32, ↓z33, ↓reduceIte, reduceCtorEq, Nat.reduceEqDiff, Nat.reduceAdd, Nat.reduceSub, Nat.reduceMul, Nat.reduceLT, Nat.reduceLeDiff, Int.reduceEq, Int.reduceLT, Int.reduceLE, Int.reduceAdd, Int.reduceSub, Int.reduceNeg, Int.reduceToNat]) | (with_reducible refine And.intro ?_ ?_) | (with_reducible refine condW_split ?_ ?_ <;> intro hc <;> (try simp only [push_cast] at hc)) | (with_reducible refine guardW_split ?_ ?_ <;> intro hc <;> (try simp only [push_cast] at hc)) | omega | (with_reducible intro _)))
  intro i hi
  refine W_T ?_
  have hp := pow_le (i + 1)
  rw [Int.pow_succ] at hp
  (repeat' (first | (simp (disch := omega) only [push_cast, ↓z1, ↓z2, ↓z3, ↓z4, ↓z5, ↓z6, ↓z7, ↓z8, ↓z9, ↓z10, ↓z11, ↓z12, ↓z13, ↓z14, ↓z15, ↓z16, ↓z17, ↓z18, ↓z19, ↓z20, ↓z21, ↓z22, ↓z23, ↓z24, ↓z25, ↓z26, ↓z27, ↓z28, ↓z29, ↓z30, ↓z31, ↓z32, ↓z33, ↓reduceIte, reduceCtorEq, Nat.reduceEqDiff, Nat.reduceAdd, Nat.reduceSub, Nat.reduceMul, Nat.reduceLT, Nat.reduceLeDiff, Int.reduceEq, Int.reduceLT, Int.reduceLE, Int.reduceAdd, Int.reduceSub, Int.reduceNeg, Int.reduceToNat]) | (with_reducible refine And.intro ?_ ?_) | (with_reducible refine condW_split ?_ ?_ <;> intro hc <;> (try simp only [push_cast] at hc)) | (with_reducible refine guardW_split ?_ ?_ <;> intro hc <;> (try simp only [push_cast] at hc)) | omega | (with_reducible intro _)))
  · refine ⟨i + 1, ?_⟩
    have hp := hp (by omega)
    (repeat' (first | (simp (disch := omega) only [push_cast, ↓z1, ↓z2, ↓z3, ↓z4, ↓z5, ↓z6, ↓z7, ↓z8, ↓z9, ↓z10, ↓z11, ↓z12, ↓z13, ↓z14, ↓z15, ↓z16, ↓z17, ↓z18, ↓z19, ↓z20, ↓z21, ↓z22, ↓z23, ↓z24, ↓z25, ↓z26, ↓z27, ↓z28, ↓z29, ↓z30, ↓z31, ↓z32, ↓z33, ↓reduceIte, reduceCtorEq, Nat.reduceEqDiff, Nat.reduceAdd, Nat.reduceSub, Nat.reduceMul, Nat.reduceLT, Nat.reduceLeDiff, Int.reduceEq, Int.reduceLT, Int.reduceLE, Int.reduceAdd, Int.reduceSub, Int.reduceNeg, Int.reduceToNat, Int.pow_succ]) | (with_reducible refine And.intro ?_ ?_) | (with_reducible refine condW_split ?_ ?_ <;> intro hc <;> (try simp only [push_cast] at hc)) | (with_reducible refine guardW_split ?_ ?_ <;> intro hc <;> (try simp only [push_cast] at hc)) | omega | (with_reducible intro _)))
  · obtain rfl : n = i := by omega
    rfl

/-- A part's value of a number. -/
def valP (p : Part) (x : Int) : Int := x / 2 ^ p.drop.toNat % 2 ^ p.take.toNat * 2 ^ p.up.toNat
def valB (p : Part) (x : Int) : Bool := bitsB p && decide (0 ≤ x ∧ x ≤ 2097151)
def val1 (p : Part) (x : Int) : Int := if valB p x then valP p x else 0
abbrev valV (p : Part) (x : Int) : AV := .tup [.int .i64 (val1 p x), .bool (valB p x)]
theorem bits_iff {p : Part} : bitsB p = true ↔ (0 ≤ p.drop ∧ p.drop < 21 ∧ 1 ≤ p.take ∧ p.take ≤ 21 ∧ 0 ≤ p.up ∧ p.up < 21 ∧ (p.up = 0 ∨ p.take ≤ 6)) := by simp [bitsB]
theorem pow21 (d : Nat) (h : d ≤ 21) : (1 : Int) ≤ 2 ^ d ∧ (2 : Int) ^ d ≤ 2097152 :=
  ⟨Int.pow_pos (by decide), by have := Nat.pow_le_pow_right (n := 2) (by decide) h; have e : ((2 ^ d : Nat) : Int) = 2 ^ d := by simp
                               rw [← e]; omega⟩
theorem val_bits {p : Part} {x : Int} (hb : bitsB p = true) (hx : 0 ≤ x ∧ x ≤ 2097151) :
    IntKind.i64.wrap (bitsI .and .i64 (x.fdiv (2 ^ min p.drop.toNat IntKind.i64.bits)) (IntKind.i64.wrap (IntKind.i64.wrap (1 * 2 ^ min p.take.toNat IntKind.i64.bits) - 1)) * 2 ^ min p.up.toNat IntKind.i64.bits) = valP p x := by
  rw [bits_iff] at hb
  have e1 : min p.drop.toNat IntKind.i64.bits = p.drop.toNat := Nat.min_eq_left (by show _ ≤ 64; omega)
  have e2 : min p.take.toNat IntKind.i64.bits = p.take.toNat := Nat.min_eq_left (by show _ ≤ 64; omega)
  have e3 : min p.up.toNat IntKind.i64.bits = p.up.toNat := Nat.min_eq_left (by show _ ≤ 64; omega)
  rw [e1, e2, e3]
  have hd := pow21 p.drop.toNat (by omega)
  have ht := pow21 p.take.toNat (by omega)
  have hu := pow21 p.up.toNat (by omega)
  rw [Int.one_mul, IntWalk.i64_in (2 ^ p.take.toNat) (by omega), IntWalk.i64_in (2 ^ p.take.toNat - 1) (by omega), fdiv_of _ _ (by omega)]
  have q0 : 0 ≤ x / 2 ^ p.drop.toNat := Int.ediv_nonneg hx.1 (by omega)
  have q1 : x / 2 ^ p.drop.toNat ≤ x := Int.ediv_le_self _ hx.1
  have m0 := Int.emod_nonneg (x / 2 ^ p.drop.toNat) (b := 2 ^ p.take.toNat) (by omega)
  have m1 := Int.emod_lt_of_pos (x / 2 ^ p.drop.toNat) (b := 2 ^ p.take.toNat) (by omega)
  rw [and_low p.take.toNat ⟨q0, by show _ < (2 : Int) ^ 64; omega⟩ (by show _ ≤ 64; omega) (IntWalk.i64_in _ (by omega))]
  refine IntWalk.i64_in _ ?_
  have : x / 2 ^ p.drop.toNat % 2 ^ p.take.toNat * 2 ^ p.up.toNat ≤ 2097152 * 2097152 := Int.mul_le_mul (by omega) (by omega) (by omega) (by omega)
  have : 0 ≤ x / 2 ^ p.drop.toNat % 2 ^ p.take.toNat * 2 ^ p.up.toNat := Int.mul_nonneg (by omega) (by omega)
  omega
theorem val_yes {p : Part} {x : Int} (hb : bitsB p = true) (hx : 0 ≤ x ∧ x ≤ 2097151) : valB p x = true ∧ val1 p x = valP p x := by
  have : valB p x = true := by simp only [valB, hb, Bool.true_and, decide_eq_true_eq]; exact hx
  exact ⟨this, by rw [val1, this]; rfl⟩
theorem val_no {p : Part} {x : Int} (h : bitsB p = false ∨ x < 0 ∨ 2097151 < x) : valB p x = false ∧ val1 p x = 0 := by
  have : valB p x = false := by
    simp only [valB, Bool.and_eq_false_iff, decide_eq_false_iff_not]
    rcases h with h | h
    · exact .inl h
    · exact .inr (by omega)
  exact ⟨this, by rw [val1, this]; rfl⟩
theorem val_quo {p : Part} {x : Int} (hb : bitsB p = true) (hx : 0 ≤ x ∧ x ≤ 2097151) : IntKind.i64.wrap ((IntKind.i64.wrap (x.tdiv (2 ^ p.drop.toNat))).tmod (2 ^ p.take.toNat) * 2 ^ p.up.toNat) = valP p x := by
  rw [bits_iff] at hb
  have hd := pow21 p.drop.toNat (by omega)
  have ht := pow21 p.take.toNat (by omega)
  have hu := pow21 p.up.toNat (by omega)
  have q0 : 0 ≤ x / 2 ^ p.drop.toNat := Int.ediv_nonneg hx.1 (by omega)
  have q1 : x / 2 ^ p.drop.toNat ≤ x := Int.ediv_le_self _ hx.1
  have m0 := Int.emod_nonneg (x / 2 ^ p.drop.toNat) (b := 2 ^ p.take.toNat) (by omega)
  have m1 := Int.emod_lt_of_pos (x / 2 ^ p.drop.toNat) (b := 2 ^ p.take.toNat) (by omega)
  rw [IntWalk.i64_quo _ _ (by omega), IntWalk.rem_in _ _ q0]
  refine IntWalk.i64_in _ ?_
  have : x / 2 ^ p.drop.toNat % 2 ^ p.take.toNat * 2 ^ p.up.toNat ≤ 2097152 * 2097152 := Int.mul_le_mul (by omega) (by omega) (by omega) (by omega)
  have : 0 ≤ x / 2 ^ p.drop.toNat % 2 ^ p.take.toNat * 2 ^ p.up.toNat := Int.mul_nonneg (by omega) (by omega)
  omega
theorem val_eqn {p : Part} {x : Int} (h : bitsB p = false ∨ x < 0 ∨ 2097151 < x) : valV p x = .tup [.int .i64 0, .bool false] := by
  obtain ⟨h1, h2⟩ := val_no h
  simp only [valV, h1, h2]
theorem val_eqy {p : Part} {x : Int} (hb : bitsB p = true) (hx : 0 ≤ x ∧ x ≤ 2097151) : valV p x = .tup [.int .i64 (valP p x), .bool true] := by
  obtain ⟨h1, h2⟩ := val_yes hb hx
  simp only [valV, h1, h2]
theorem part_Value (p : Part) (x : Int) : PC Try.prog 48 [partV p, .int .i64 x] (valV p x) := by
  refine pc_w' c_part_Value ?_
  unfold B_part_Value
  (repeat' (first | (simp (disch := omega) only [push_cast, ↓z1, ↓z2, ↓z3, ↓z4, ↓z5, ↓z6, ↓z7, ↓z8, ↓z9, ↓z10, ↓z11, ↓z12, ↓z13, ↓z14, ↓z15, ↓z16, ↓z17, ↓z18, ↓z19, ↓z20, ↓z21, ↓z22, ↓z23, ↓z24, ↓z25, ↓z26, ↓z27, ↓z28, ↓z29, ↓z30, ↓z31, ↓z32, ↓z33, ↓reduceIte, reduceCtorEq, Nat.reduceEqDiff, Nat.reduceAdd, Nat.reduceSub, Nat.reduceMul, Nat.reduceLT, Nat.reduceLeDiff, Int.reduceEq, Int.reduceLT, Int.reduceLE, Int.reduceAdd, Int.reduceSub, Int.reduceNeg, Int.reduceToNat]) | (with_reducible refine And.intro ?_ ?_) | (with_reducible refine condW_split ?_ ?_ <;> intro hc <;> (try simp only [push_cast] at hc)) | (with_reducible refine guardW_split ?_ ?_ <;> intro hc <;> (try simp only [push_cast] at hc)) | (with_reducible refine eK (part_bits p) ?_) | (with_reducible refine eQ (part_bits p) ?_) | (with_reducible refine eG (part_bits p) ?_) | (with_reducible refine cK (part_bits p) ?_) | (with_reducible refine cQ (part_bits p) ?_) | (with_reducible refine cG (part_bits p) ?_) | omega | (with_reducible intro _)))
  all_goals first | (have hb := bits_iff.1 ‹bitsB p = true›; omega) | (rw [val_eqn (.inl ‹_›)]; (repeat' (first | (simp (disch := omega) only [push_cast, ↓z1, ↓z2, ↓z3, ↓z4, ↓z5, ↓z6, ↓z7, ↓z8, ↓z9, ↓z10, ↓z11, ↓z12, ↓z13, ↓z14, ↓z15, ↓z16, ↓z17, ↓z18, ↓z19, ↓z20, ↓z21, ↓z22, ↓z23, ↓z24, ↓z25, ↓z26, ↓z27, ↓z28, ↓z29, ↓z30, ↓z31, ↓z32, ↓z33, ↓reduceIte, reduceCtorEq, Nat.reduceEqDiff, Nat.reduceAdd, Nat.reduceSub, Nat.reduceMul, Nat.reduceLT, Nat.reduceLeDiff, Int.reduceEq, Int.reduceLT, Int.reduceLE, Int.reduceAdd, Int.reduceSub, Int.reduceNeg, Int.reduceToNat, an_tup]) | omega | (with_reducible refine And.intro ?_ ?_))); done) | (rw [val_eqn (.inr (by omega))]; (repeat' (first | (simp (disch := omega) only [push_cast, ↓z1, ↓z2, ↓z3, ↓z4, ↓z5, ↓z6, ↓z7, ↓z8, ↓z9, ↓z10, ↓z11, ↓z12, ↓z13, ↓z14, ↓z15, ↓z16, ↓z17, ↓z18, ↓z19, ↓z20, ↓z21, ↓z22, ↓z23, ↓z24, ↓z25, ↓z26, ↓z27, ↓z28, ↓z29, ↓z30, ↓z31, ↓z32, ↓z33, ↓reduceIte, reduceCtorEq, Nat.reduceEqDiff, Nat.reduceAdd, Nat.reduceSub, Nat.reduceMul, Nat.reduceLT, Nat.reduceLeDiff, Int.reduceEq, Int.reduceLT, Int.reduceLE, Int.reduceAdd, Int.reduceSub, Int.reduceNeg, Int.reduceToNat, an_tup]) | omega | (with_reducible refine And.intro ?_ ?_))); done) | (rw [val_eqy ‹_› (by omega)]; (repeat' (first | (simp (disch := omega) only [push_cast, ↓z1, ↓z2, ↓z3, ↓z4, ↓z5, ↓z6, ↓z7, ↓z8, ↓z9, ↓z10, ↓z11, ↓z12, ↓z13, ↓z14, ↓z15, ↓z16, ↓z17, ↓z18, ↓z19, ↓z20, ↓z21, ↓z22, ↓z23, ↓z24, ↓z25, ↓z26, ↓z27, ↓z28, ↓z29, ↓z30, ↓z31, ↓z32, ↓z33, ↓reduceIte, reduceCtorEq, Nat.reduceEqDiff, Nat.reduceAdd, Nat.reduceSub, Nat.reduceMul, Nat.reduceLT, Nat.reduceLeDiff, Int.reduceEq, Int.reduceLT, Int.reduceLE, Int.reduceAdd, Int.reduceSub, Int.reduceNeg, Int.reduceToNat, an_tup]) | omega | (with_reducible refine And.intro ?_ ?_))); exact val_bits ‹_› (by omega))
theorem ref03_Value (p : Part) (x : Int) : PC Try.prog 50 [partV p, .int .i64 x] (valV p x) := by
  refine pc_w' c_ref03_Value ?_
  unfold B_ref03_Value
  (repeat' (first | (simp (disch := omega) only [push_cast, ↓z1, ↓z2, ↓z3, ↓z4, ↓z5, ↓z6, ↓z7, ↓z8, ↓z9, ↓z10, ↓z11, ↓z12, ↓z13, ↓z14, ↓z15, ↓z16, ↓z17, ↓z18, ↓z19, ↓z20, ↓z21, ↓z22, ↓z23, ↓z24, ↓z25, ↓z26, ↓z27, ↓z28, ↓z29, ↓z30, ↓z31, ↓z32, ↓z33, ↓reduceIte, reduceCtorEq, Nat.reduceEqDiff, Nat.reduceAdd, Nat.reduceSub, Nat.reduceMul, Nat.reduceLT, Nat.reduceLeDiff, Int.reduceEq, Int.reduceLT, Int.reduceLE, Int.reduceAdd, Int.reduceSub, Int.reduceNeg, Int.reduceToNat]) | (with_reducible refine And.intro ?_ ?_) | (with_reducible refine condW_split ?_ ?_ <;> intro hc <;> (try simp only [push_cast] at hc)) | (with_reducible refine guardW_split ?_ ?_ <;> intro hc <;> (try simp only [push_cast] at hc)) | (with_reducible refine eK (ref_Bits p) ?_) | (with_reducible refine eQ (ref_Bits p) ?_) | (with_reducible refine eG (ref_Bits p) ?_) | (with_reducible refine eK (ref_Two p.drop (by have hb := bits_iff.1 ‹bitsB p = true›; omega)) ?_) | (with_reducible refine eQ (ref_Two p.drop (by have hb := bits_iff.1 ‹bitsB p = true›; omega)) ?_) | (with_reducible refine eG (ref_Two p.drop (by have hb := bits_iff.1 ‹bitsB p = true›; omega)) ?_) | (with_reducible refine eK (ref_Two p.take (by have hb := bits_iff.1 ‹bitsB p = true›; omega)) ?_) | (with_reducible refine eQ (ref_Two p.take (by have hb := bits_iff.1 ‹bitsB p = true›; omega)) ?_) | (with_reducible refine eG (ref_Two p.take (by have hb := bits_iff.1 ‹bitsB p = true›; omega)) ?_) | (with_reducible refine eK (ref_Two p.up (by have hb := bits_iff.1 ‹bitsB p = true›; omega)) ?_) | (with_reducible refine eQ (ref_Two p.up (by have hb := bits_iff.1 ‹bitsB p = true›; omega)) ?_) | (with_reducible refine eG (ref_Two p.up (by have hb := bits_iff.1 ‹bitsB p = true›; omega)) ?_) | (with_reducible refine cK (ref_Bits p) ?_) | (with_reducible refine cQ (ref_Bits p) ?_) | (with_reducible refine cG (ref_Bits p) ?_) | (with_reducible refine cK (ref_Two p.drop (by have hb := bits_iff.1 ‹bitsB p = true›; omega)) ?_) | (with_reducible refine cQ (ref_Two p.drop (by have hb := bits_iff.1 ‹bitsB p = true›; omega)) ?_) | (with_reducible refine cG (ref_Two p.drop (by have hb := bits_iff.1 ‹bitsB p = true›; omega)) ?_) | (with_reducible refine cK (ref_Two p.take (by have hb := bits_iff.1 ‹bitsB p = true›; omega)) ?_) | (with_reducible refine cQ (ref_Two p.take (by have hb := bits_iff.1 ‹bitsB p = true›; omega)) ?_) | (with_reducible refine cG (ref_Two p.take (by have hb := bits_iff.1 ‹bitsB p = true›; omega)) ?_) | (with_reducible refine cK (ref_Two p.up (by have hb := bits_iff.1 ‹bitsB p = true›; omega)) ?_) | (with_reducible refine cQ (ref_Two p.up (by have hb := bits_iff.1 ‹bitsB p = true›; omega)) ?_) | (with_reducible refine cG (ref_Two p.up (by have hb := bits_iff.1 ‹bitsB p = true›; omega)) ?_) | omega | (with_reducible intro _)))
  all_goals first | (rw [val_eqn (.inl ‹_›)]; (repeat' (first | (simp (disch := omega) only [push_cast, ↓z1, ↓z2, ↓z3, ↓z4, ↓z5, ↓z6, ↓z7, ↓z8, ↓z9, ↓z10, ↓z11, ↓z12, ↓z13, ↓z14, ↓z15, ↓z16, ↓z17, ↓z18, ↓z19, ↓z20, ↓z21, ↓z22, ↓z23, ↓z24, ↓z25, ↓z26, ↓z27, ↓z28, ↓z29, ↓z30, ↓z31, ↓z32, ↓z33, ↓reduceIte, reduceCtorEq, Nat.reduceEqDiff, Nat.reduceAdd, Nat.reduceSub, Nat.reduceMul, Nat.reduceLT, Nat.reduceLeDiff, Int.reduceEq, Int.reduceLT, Int.reduceLE, Int.reduceAdd, Int.reduceSub, Int.reduceNeg, Int.reduceToNat, an_tup]) | omega | (with_reducible refine And.intro ?_ ?_))); done) | (rw [val_eqn (.inr (by omega))]; (repeat' (first | (simp (disch := omega) only [push_cast, ↓z1, ↓z2, ↓z3, ↓z4, ↓z5, ↓z6, ↓z7, ↓z8, ↓z9, ↓z10, ↓z11, ↓z12, ↓z13, ↓z14, ↓z15, ↓z16, ↓z17, ↓z18, ↓z19, ↓z20, ↓z21, ↓z22, ↓z23, ↓z24, ↓z25, ↓z26, ↓z27, ↓z28, ↓z29, ↓z30, ↓z31, ↓z32, ↓z33, ↓reduceIte, reduceCtorEq, Nat.reduceEqDiff, Nat.reduceAdd, Nat.reduceSub, Nat.reduceMul, Nat.reduceLT, Nat.reduceLeDiff, Int.reduceEq, Int.reduceLT, Int.reduceLE, Int.reduceAdd, Int.reduceSub, Int.reduceNeg, Int.reduceToNat, an_tup]) | omega | (with_reducible refine And.intro ?_ ?_))); done) | (have hp := pow21 p.drop.toNat (by have hb := bits_iff.1 ‹bitsB p = true›; omega); omega) | (have hp := pow21 p.take.toNat (by have hb := bits_iff.1 ‹bitsB p = true›; omega); omega) | (rw [val_eqy ‹_› (by omega)]; (repeat' (first | (simp (disch := omega) only [push_cast, ↓z1, ↓z2, ↓z3, ↓z4, ↓z5, ↓z6, ↓z7, ↓z8, ↓z9, ↓z10, ↓z11, ↓z12, ↓z13, ↓z14, ↓z15, ↓z16, ↓z17, ↓z18, ↓z19, ↓z20, ↓z21, ↓z22, ↓z23, ↓z24, ↓z25, ↓z26, ↓z27, ↓z28, ↓z29, ↓z30, ↓z31, ↓z32, ↓z33, ↓reduceIte, reduceCtorEq, Nat.reduceEqDiff, Nat.reduceAdd, Nat.reduceSub, Nat.reduceMul, Nat.reduceLT, Nat.reduceLeDiff, Int.reduceEq, Int.reduceLT, Int.reduceLE, Int.reduceAdd, Int.reduceSub, Int.reduceNeg, Int.reduceToNat, an_tup]) | omega | (with_reducible refine And.intro ?_ ?_))); exact val_quo ‹_› (by omega))
theorem word_Domain (s : Int) : PC Try.prog 40 [.int .i64 s] (spansV (domL s)) := by
  refine pc_w' c_word_Domain ?_
  unfold B_word_Domain
  (repeat' (first | (simp (disch := omega) only [push_cast, ↓z1, ↓z2, ↓z3, ↓z4, ↓z5, ↓z6, ↓z7, ↓z8, ↓z9, ↓z10, ↓z11, ↓z12, ↓z13, ↓z14, ↓z15, ↓z16, ↓z17, ↓z18, ↓z19, ↓z20, ↓z21, ↓z22, ↓z23, ↓z24, ↓z25, ↓z26, ↓z27, ↓z28, ↓z29, ↓z30, ↓z31, ↓z32, ↓z33, ↓reduceIte, reduceCtorEq, Nat.reduceEqDiff, Nat.reduceAdd, Nat.reduceSub, Nat.reduceMul, Nat.reduceLT, Nat.reduceLeDiff, Int.reduceEq, Int.reduceLT, Int.reduceLE, Int.reduceAdd, Int.reduceSub, Int.reduceNeg, Int.reduceToNat]) | (with_reducible refine And.intro ?_ ?_) | (with_reducible refine condW_split ?_ ?_ <;> intro hc <;> (try simp only [push_cast] at hc)) | (with_reducible refine guardW_split ?_ ?_ <;> intro hc <;> (try simp only [push_cast] at hc)) | omega | (with_reducible intro _)))
  all_goals (simp only [domL, *]; rfl)
end Go.Proofs.Ytdjbcenfgceejaa
