/-
  Contracts of layer 4: terms bound; terms alike.
-/
import Derived.Test.YtdjbcenfgceejaaC5
set_option linter.unusedSimpArgs false
set_option linter.unusedVariables false
namespace Go.Proofs.Ytdjbcenfgceejaa
open Abs
def bindF (w : List Int) (a : Int) : List Part → Int → List Part → Int × List Part
  | [], s, l => (s, l)
  | p :: r, s, l =>
    if p.at_ = a then bindF w a r s (l ++ [⟨0, p.drop, p.take, p.up⟩])
    else if 0 ≤ p.at_ ∧ p.at_ < w.length ∧ valB p (nth w p.at_.toNat) = true then bindF w a r (IntKind.i64.wrap (s + val1 p (nth w p.at_.toNat))) l
    else bindF w a r s (l ++ [p])
def bindT (t : Term) (w : List Int) (a : Int) : Term := ⟨t.base, t.drop, t.take, t.up, (bindF w a t.parts t.sum []).1, (bindF w a t.parts t.sum []).2⟩
theorem bind_at {w : List Int} {a : Int} {l m : List Part} {k : Nat} {s : Int} (h : k < l.length) : bindF w a (l.drop k) s m =
    if (nth l k).at_ = a then bindF w a (l.drop (k + 1)) s (m ++ [⟨0, (nth l k).drop, (nth l k).take, (nth l k).up⟩])
    else if 0 ≤ (nth l k).at_ ∧ (nth l k).at_ < w.length ∧ valB (nth l k) (nth w (nth l k).at_.toNat) = true then bindF w a (l.drop (k + 1)) (IntKind.i64.wrap (s + val1 (nth l k) (nth w (nth l k).at_.toNat))) m
    else bindF w a (l.drop (k + 1)) s (m ++ [nth l k]) := by
  rw [drop_at h, bindF]
set_option maxHeartbeats 1000000 in
theorem term_Bind (t : Term) (w : List Int) (a : Int) (hl : t.parts.length ≤ 1000000000000) (hw : w.length ≤ 1000000000000) (h32 : ∀ x ∈ w, -2147483648 ≤ x ∧ x ≤ 2147483647) : PC Try.prog 24 [termV t, runesV w, .int .i64 a] (termV (bindT t w a)) := by
  have hw32 : ∀ j, j < w.length → IntKind.i64.wrap (nth w j) = nth w j := fun j hj => by have := h32 _ (nth_mem hj); exact IntWalk.i64_in _ (by omega)
  refine pc_w' c_term_Bind ?_
  unfold B_term_Bind
  (repeat' (first | (simp (disch := omega) only [push_cast, ↓z1, ↓z2, ↓z3, ↓z4, ↓z5, ↓z6, ↓z7, ↓z8, ↓z9, ↓z10, ↓z11, ↓z12, ↓z13, ↓z14, ↓z15, ↓z16, ↓z17, ↓z18, ↓z19, ↓z20, ↓z21, ↓z22, ↓z23, ↓z24, ↓z25, ↓z26, ↓z27, ↓z28, ↓z29, ↓z30, ↓z31, ↓z32, ↓z33, ↓reduceIte, reduceCtorEq, Nat.reduceEqDiff, Nat.reduceAdd, Nat.reduceSub, Nat.reduceMul, Nat.reduceLT, Nat.reduceLeDiff, Int.reduceEq, Int.reduceLT, Int.reduceLE, Int.reduceAdd, Int.reduceSub, Int.reduceNeg, Int.reduceToNat]) | (with_reducible refine And.intro ?_ ?_) | (with_reducible refine condW_split ?_ ?_ <;> intro hc <;> (try simp only [push_cast] at hc)) | (with_reducible refine guardW_split ?_ ?_ <;> intro hc <;> (try simp only [push_cast] at hc)) | omega | (with_reducible intro _)))
  refine LoopK_T (T_loopR (fun (s : Nat × Int × List Part) => s.1 ≤ t.parts.length ∧ s.2.2.length ≤ s.1 ∧ bindF w a t.parts t.sum [] = bindF w a (t.parts.drop s.1) s.2.1 s.2.2) (fun s => t.parts.length - s.1)
    (fun s => [(1, runesV w), (2, .int .i64 a), (3, .ptr 0 1 0 0), (6, .ptr 1 1 0 0), (7, .ref 2 1 0 s.2.2.length), (13, partsV t.parts), (14, .int .i64 t.parts.length), (15, .int .i64 s.1)])
    (fun s => [⟨6, 1, true, [termV ⟨t.base, t.drop, t.take, t.up, s.2.1, t.parts⟩]⟩, ⟨6, 1, true, [.agg [.int .i64 0, .int .i64 0, .int .i64 0, .int .i64 0, .int .i64 0, .nilS]]⟩, ⟨4, 1, false, s.2.2.map partV⟩])
    (fun env _ => [srcOf 0 (env 3), srcOf 0 (env 6), srcOf 4 (env 7)]) (0, t.sum, []) (by simp) ?_ ?_)
  · (repeat' (first | (simp (disch := omega) only [push_cast, ↓z1, ↓z2, ↓z3, ↓z4, ↓z5, ↓z6, ↓z7, ↓z8, ↓z9, ↓z10, ↓z11, ↓z12, ↓z13, ↓z14, ↓z15, ↓z16, ↓z17, ↓z18, ↓z19, ↓z20, ↓z21, ↓z22, ↓z23, ↓z24, ↓z25, ↓z26, ↓z27, ↓z28, ↓z29, ↓z30, ↓z31, ↓z32, ↓z33, ↓reduceIte, reduceCtorEq, Nat.reduceEqDiff, Nat.reduceAdd, Nat.reduceSub, Nat.reduceMul, Nat.reduceLT, Nat.reduceLeDiff, Int.reduceEq, Int.reduceLT, Int.reduceLE, Int.reduceAdd, Int.reduceSub, Int.reduceNeg, Int.reduceToNat]) | (with_reducible refine And.intro ?_ ?_) | (with_reducible refine condW_split ?_ ?_ <;> intro hc <;> (try simp only [push_cast] at hc)) | (with_reducible refine guardW_split ?_ ?_ <;> intro hc <;> (try simp only [push_cast] at hc)) | omega | (with_reducible intro _)))
  rintro ⟨k, s, m⟩ ⟨hk, hm, hr⟩
  simp only at hk hm hr
  refine W_T ?_
  (repeat' (first | (simp (disch := omega) only [push_cast, ↓z1, ↓z2, ↓z3, ↓z4, ↓z5, ↓z6, ↓z7, ↓z8, ↓z9, ↓z10, ↓z11, ↓z12, ↓z13, ↓z14, ↓z15, ↓z16, ↓z17, ↓z18, ↓z19, ↓z20, ↓z21, ↓z22, ↓z23, ↓z24, ↓z25, ↓z26, ↓z27, ↓z28, ↓z29, ↓z30, ↓z31, ↓z32, ↓z33, ↓reduceIte, reduceCtorEq, Nat.reduceEqDiff, Nat.reduceAdd, Nat.reduceSub, Nat.reduceMul, Nat.reduceLT, Nat.reduceLeDiff, Int.reduceEq, Int.reduceLT, Int.reduceLE, Int.reduceAdd, Int.reduceSub, Int.reduceNeg, Int.reduceToNat, hw32]) | (with_reducible refine And.intro ?_ ?_) | (with_reducible refine condW_split ?_ ?_ <;> intro hc <;> (try simp only [push_cast] at hc)) | (with_reducible refine guardW_split ?_ ?_ <;> intro hc <;> (try simp only [push_cast] at hc)) | (with_reducible refine eK (part_Value (nth t.parts k) (nth w (nth t.parts k).at_.toNat)) ?_) | (with_reducible refine eQ (part_Value (nth t.parts k) (nth w (nth t.parts k).at_.toNat)) ?_) | (with_reducible refine eG (part_Value (nth t.parts k) (nth w (nth t.parts k).at_.toNat)) ?_) | (with_reducible refine cK (part_Value (nth t.parts k) (nth w (nth t.parts k).at_.toNat)) ?_) | (with_reducible refine cQ (part_Value (nth t.parts k) (nth w (nth t.parts k).at_.toNat)) ?_) | (with_reducible refine cG (part_Value (nth t.parts k) (nth w (nth t.parts k).at_.toNat)) ?_) | omega | (with_reducible intro _)))
  all_goals first
    | (refine ⟨(k + 1, s, m ++ [⟨0, (nth t.parts k).drop, (nth t.parts k).take, (nth t.parts k).up⟩]), ?_⟩
       (repeat' (first | (simp (disch := omega) only [push_cast, ↓z1, ↓z2, ↓z3, ↓z4, ↓z5, ↓z6, ↓z7, ↓z8, ↓z9, ↓z10, ↓z11, ↓z12, ↓z13, ↓z14, ↓z15, ↓z16, ↓z17, ↓z18, ↓z19, ↓z20, ↓z21, ↓z22, ↓z23, ↓z24, ↓z25, ↓z26, ↓z27, ↓z28, ↓z29, ↓z30, ↓z31, ↓z32, ↓z33, ↓reduceIte, reduceCtorEq, Nat.reduceEqDiff, Nat.reduceAdd, Nat.reduceSub, Nat.reduceMul, Nat.reduceLT, Nat.reduceLeDiff, Int.reduceEq, Int.reduceLT, Int.reduceLE, Int.reduceAdd, Int.reduceSub, Int.reduceNeg, Int.reduceToNat]) | (with_reducible refine And.intro ?_ ?_) | (with_reducible refine condW_split ?_ ?_ <;> intro hc <;> (try simp only [push_cast] at hc)) | (with_reducible refine guardW_split ?_ ?_ <;> intro hc <;> (try simp only [push_cast] at hc)) | omega | (with_reducible intro _)))
       rw [hr, bind_at (by omega), if_pos ‹_›]; done)
    | (refine ⟨(k + 1, IntKind.i64.wrap (s + val1 (nth t.parts k) (nth w (nth t.parts k).at_.toNat)), m), ?_⟩
       (repeat' (first | (simp (disch := omega) only [push_cast, ↓z1, ↓z2, ↓z3, ↓z4, ↓z5, ↓z6, ↓z7, ↓z8, ↓z9, ↓z10, ↓z11, ↓z12, ↓z13, ↓z14, ↓z15, ↓z16, ↓z17, ↓z18, ↓z19, ↓z20, ↓z21, ↓z22, ↓z23, ↓z24, ↓z25, ↓z26, ↓z27, ↓z28, ↓z29, ↓z30, ↓z31, ↓z32, ↓z33, ↓reduceIte, reduceCtorEq, Nat.reduceEqDiff, Nat.reduceAdd, Nat.reduceSub, Nat.reduceMul, Nat.reduceLT, Nat.reduceLeDiff, Int.reduceEq, Int.reduceLT, Int.reduceLE, Int.reduceAdd, Int.reduceSub, Int.reduceNeg, Int.reduceToNat]) | (with_reducible refine And.intro ?_ ?_) | (with_reducible refine condW_split ?_ ?_ <;> intro hc <;> (try simp only [push_cast] at hc)) | (with_reducible refine guardW_split ?_ ?_ <;> intro hc <;> (try simp only [push_cast] at hc)) | omega | (with_reducible intro _)))
       rw [hr, bind_at (by omega), if_neg ‹_›, if_pos ⟨‹_›, ‹_›, ‹_›⟩]; done)
    | (refine ⟨(k + 1, s, m ++ [nth t.parts k]), ?_⟩
       (repeat' (first | (simp (disch := omega) only [push_cast, ↓z1, ↓z2, ↓z3, ↓z4, ↓z5, ↓z6, ↓z7, ↓z8, ↓z9, ↓z10, ↓z11, ↓z12, ↓z13, ↓z14, ↓z15, ↓z16, ↓z17, ↓z18, ↓z19, ↓z20, ↓z21, ↓z22, ↓z23, ↓z24, ↓z25, ↓z26, ↓z27, ↓z28, ↓z29, ↓z30, ↓z31, ↓z32, ↓z33, ↓reduceIte, reduceCtorEq, Nat.reduceEqDiff, Nat.reduceAdd, Nat.reduceSub, Nat.reduceMul, Nat.reduceLT, Nat.reduceLeDiff, Int.reduceEq, Int.reduceLT, Int.reduceLE, Int.reduceAdd, Int.reduceSub, Int.reduceNeg, Int.reduceToNat]) | (with_reducible refine And.intro ?_ ?_) | (with_reducible refine condW_split ?_ ?_ <;> intro hc <;> (try simp only [push_cast] at hc)) | (with_reducible refine guardW_split ?_ ?_ <;> intro hc <;> (try simp only [push_cast] at hc)) | omega | (with_reducible intro _)))
       rw [hr, bind_at (by omega), if_neg ‹_›, if_neg (by rintro ⟨h1, h2, h3⟩; first | omega | (rw [‹valB (nth t.parts k) (nth w (nth t.parts k).at_.toNat) = false›] at h3; cases h3))]; done)
    | (rw [List.drop_of_length_le (by omega), bindF] at hr; simp only [bindT, hr]; done)
    | trace_state
set_option maxHeartbeats 1000000 in
theorem ref_Bind (t : Term) (w : List Int) (a : Int) (hl : t.parts.length ≤ 1000000000000) (hw : w.length ≤ 1000000000000) (h32 : ∀ x ∈ w, -2147483648 ≤ x ∧ x ≤ 2147483647) : PC Try.prog 25 [termV t, runesV w, .int .i64 a] (termV (bindT t w a)) := by
  have hw32 : ∀ j, j < w.length → IntKind.i64.wrap (nth w j) = nth w j := fun j hj => by have := h32 _ (nth_mem hj); exact IntWalk.i64_in _ (by omega)
  refine pc_w' c_ref04_Bind ?_
  unfold B_ref04_Bind
  (repeat' (first | (simp (disch := omega) only [push_cast, ↓z1, ↓z2, ↓z3, ↓z4, ↓z5, ↓z6, ↓z7, ↓z8, ↓z9, ↓z10, ↓z11, ↓z12, ↓z13, ↓z14, ↓z15, ↓z16, ↓z17, ↓z18, ↓z19, ↓z20, ↓z21, ↓z22, ↓z23, ↓z24, ↓z25, ↓z26, ↓z27, ↓z28, ↓z29, ↓z30, ↓z31, ↓z32, ↓z33, ↓reduceIte, reduceCtorEq, Nat.reduceEqDiff, Nat.reduceAdd, Nat.reduceSub, Nat.reduceMul, Nat.reduceLT, Nat.reduceLeDiff, Int.reduceEq, Int.reduceLT, Int.reduceLE, Int.reduceAdd, Int.reduceSub, Int.reduceNeg, Int.reduceToNat]) | (with_reducible refine And.intro ?_ ?_) | (with_reducible refine condW_split ?_ ?_ <;> intro hc <;> (try simp only [push_cast] at hc)) | (with_reducible refine guardW_split ?_ ?_ <;> intro hc <;> (try simp only [push_cast] at hc)) | omega | (with_reducible intro _)))
  refine LoopK_T (T_loopR (fun (s : Nat × Int × List Part) => s.1 ≤ t.parts.length ∧ s.2.2.length ≤ s.1 ∧ bindF w a t.parts t.sum [] = bindF w a (t.parts.drop s.1) s.2.1 s.2.2) (fun s => t.parts.length - s.1)
    (fun s => [(1, runesV w), (2, .int .i64 a), (3, .ptr 0 1 0 0), (6, .ptr 1 1 0 0), (7, .ref 2 1 0 s.2.2.length), (8, .int .i64 s.2.1), (9, .int .i64 s.1)])
    (fun s => [⟨6, 1, true, [termV t]⟩, ⟨6, 1, true, [.agg [.int .i64 0, .int .i64 0, .int .i64 0, .int .i64 0, .int .i64 0, .nilS]]⟩, ⟨4, 1, false, s.2.2.map partV⟩])
    (fun env _ => [srcOf 0 (env 3), srcOf 0 (env 6), srcOf 4 (env 7)]) (0, t.sum, []) (by simp) ?_ ?_)
  · (repeat' (first | (simp (disch := omega) only [push_cast, ↓z1, ↓z2, ↓z3, ↓z4, ↓z5, ↓z6, ↓z7, ↓z8, ↓z9, ↓z10, ↓z11, ↓z12, ↓z13, ↓z14, ↓z15, ↓z16, ↓z17, ↓z18, ↓z19, ↓z20, ↓z21, ↓z22, ↓z23, ↓z24, ↓z25, ↓z26, ↓z27, ↓z28, ↓z29, ↓z30, ↓z31, ↓z32, ↓z33, ↓reduceIte, reduceCtorEq, Nat.reduceEqDiff, Nat.reduceAdd, Nat.reduceSub, Nat.reduceMul, Nat.reduceLT, Nat.reduceLeDiff, Int.reduceEq, Int.reduceLT, Int.reduceLE, Int.reduceAdd, Int.reduceSub, Int.reduceNeg, Int.reduceToNat]) | (with_reducible refine And.intro ?_ ?_) | (with_reducible refine condW_split ?_ ?_ <;> intro hc <;> (try simp only [push_cast] at hc)) | (with_reducible refine guardW_split ?_ ?_ <;> intro hc <;> (try simp only [push_cast] at hc)) | omega | (with_reducible intro _)))
  rintro ⟨k, s, m⟩ ⟨hk, hm, hr⟩
  simp only at hk hm hr
  refine W_T ?_
  (repeat' (first | (simp (disch := omega) only [push_cast, ↓z1, ↓z2, ↓z3, ↓z4, ↓z5, ↓z6, ↓z7, ↓z8, ↓z9, ↓z10, ↓z11, ↓z12, ↓z13, ↓z14, ↓z15, ↓z16, ↓z17, ↓z18, ↓z19, ↓z20, ↓z21, ↓z22, ↓z23, ↓z24, ↓z25, ↓z26, ↓z27, ↓z28, ↓z29, ↓z30, ↓z31, ↓z32, ↓z33, ↓reduceIte, reduceCtorEq, Nat.reduceEqDiff, Nat.reduceAdd, Nat.reduceSub, Nat.reduceMul, Nat.reduceLT, Nat.reduceLeDiff, Int.reduceEq, Int.reduceLT, Int.reduceLE, Int.reduceAdd, Int.reduceSub, Int.reduceNeg, Int.reduceToNat, hw32]) | (with_reducible refine And.intro ?_ ?_) | (with_reducible refine condW_split ?_ ?_ <;> intro hc <;> (try simp only [push_cast] at hc)) | (with_reducible refine guardW_split ?_ ?_ <;> intro hc <;> (try simp only [push_cast] at hc)) | (with_reducible refine eK (ref03_Value (nth t.parts k) (nth w (nth t.parts k).at_.toNat)) ?_) | (with_reducible refine eQ (ref03_Value (nth t.parts k) (nth w (nth t.parts k).at_.toNat)) ?_) | (with_reducible refine eG (ref03_Value (nth t.parts k) (nth w (nth t.parts k).at_.toNat)) ?_) | (with_reducible refine cK (ref03_Value (nth t.parts k) (nth w (nth t.parts k).at_.toNat)) ?_) | (with_reducible refine cQ (ref03_Value (nth t.parts k) (nth w (nth t.parts k).at_.toNat)) ?_) | (with_reducible refine cG (ref03_Value (nth t.parts k) (nth w (nth t.parts k).at_.toNat)) ?_) | omega | (with_reducible intro _)))
  all_goals first
    | (refine ⟨(k + 1, s, m ++ [⟨0, (nth t.parts k).drop, (nth t.parts k).take, (nth t.parts k).up⟩]), ?_⟩
       (repeat' (first | (simp (disch := omega) only [push_cast, ↓z1, ↓z2, ↓z3, ↓z4, ↓z5, ↓z6, ↓z7, ↓z8, ↓z9, ↓z10, ↓z11, ↓z12, ↓z13, ↓z14, ↓z15, ↓z16, ↓z17, ↓z18, ↓z19, ↓z20, ↓z21, ↓z22, ↓z23, ↓z24, ↓z25, ↓z26, ↓z27, ↓z28, ↓z29, ↓z30, ↓z31, ↓z32, ↓z33, ↓reduceIte, reduceCtorEq, Nat.reduceEqDiff, Nat.reduceAdd, Nat.reduceSub, Nat.reduceMul, Nat.reduceLT, Nat.reduceLeDiff, Int.reduceEq, Int.reduceLT, Int.reduceLE, Int.reduceAdd, Int.reduceSub, Int.reduceNeg, Int.reduceToNat]) | (with_reducible refine And.intro ?_ ?_) | (with_reducible refine condW_split ?_ ?_ <;> intro hc <;> (try simp only [push_cast] at hc)) | (with_reducible refine guardW_split ?_ ?_ <;> intro hc <;> (try simp only [push_cast] at hc)) | omega | (with_reducible intro _)))
       rw [hr, bind_at (by omega), if_pos ‹_›]; done)
    | (refine ⟨(k + 1, IntKind.i64.wrap (s + val1 (nth t.parts k) (nth w (nth t.parts k).at_.toNat)), m), ?_⟩
       (repeat' (first | (simp (disch := omega) only [push_cast, ↓z1, ↓z2, ↓z3, ↓z4, ↓z5, ↓z6, ↓z7, ↓z8, ↓z9, ↓z10, ↓z11, ↓z12, ↓z13, ↓z14, ↓z15, ↓z16, ↓z17, ↓z18, ↓z19, ↓z20, ↓z21, ↓z22, ↓z23, ↓z24, ↓z25, ↓z26, ↓z27, ↓z28, ↓z29, ↓z30, ↓z31, ↓z32, ↓z33, ↓reduceIte, reduceCtorEq, Nat.reduceEqDiff, Nat.reduceAdd, Nat.reduceSub, Nat.reduceMul, Nat.reduceLT, Nat.reduceLeDiff, Int.reduceEq, Int.reduceLT, Int.reduceLE, Int.reduceAdd, Int.reduceSub, Int.reduceNeg, Int.reduceToNat]) | (with_reducible refine And.intro ?_ ?_) | (with_reducible refine condW_split ?_ ?_ <;> intro hc <;> (try simp only [push_cast] at hc)) | (with_reducible refine guardW_split ?_ ?_ <;> intro hc <;> (try simp only [push_cast] at hc)) | omega | (with_reducible intro _)))
       rw [hr, bind_at (by omega), if_neg ‹_›, if_pos ⟨‹_›, ‹_›, ‹_›⟩]; done)
    | (refine ⟨(k + 1, s, m ++ [nth t.parts k]), ?_⟩
       (repeat' (first | (simp (disch := omega) only [push_cast, ↓z1, ↓z2, ↓z3, ↓z4, ↓z5, ↓z6, ↓z7, ↓z8, ↓z9, ↓z10, ↓z11, ↓z12, ↓z13, ↓z14, ↓z15, ↓z16, ↓z17, ↓z18, ↓z19, ↓z20, ↓z21, ↓z22, ↓z23, ↓z24, ↓z25, ↓z26, ↓z27, ↓z28, ↓z29, ↓z30, ↓z31, ↓z32, ↓z33, ↓reduceIte, reduceCtorEq, Nat.reduceEqDiff, Nat.reduceAdd, Nat.reduceSub, Nat.reduceMul, Nat.reduceLT, Nat.reduceLeDiff, Int.reduceEq, Int.reduceLT, Int.reduceLE, Int.reduceAdd, Int.reduceSub, Int.reduceNeg, Int.reduceToNat]) | (with_reducible refine And.intro ?_ ?_) | (with_reducible refine condW_split ?_ ?_ <;> intro hc <;> (try simp only [push_cast] at hc)) | (with_reducible refine guardW_split ?_ ?_ <;> intro hc <;> (try simp only [push_cast] at hc)) | omega | (with_reducible intro _)))
       rw [hr, bind_at (by omega), if_neg ‹_›, if_neg (by rintro ⟨h1, h2, h3⟩; first | omega | (rw [‹valB (nth t.parts k) (nth w (nth t.parts k).at_.toNat) = false›] at h3; cases h3))]; done)
    | (rw [List.drop_of_length_le (by omega), bindF] at hr; simp only [bindT, hr]; done)
    | trace_state
theorem partsEq_at {l m : List Part} {k : Nat} (h1 : k < l.length) (h2 : k < m.length) : decide (l.drop k = m.drop k) = (decide (nth l k = nth m k) && decide (l.drop (k + 1) = m.drop (k + 1))) := by
  rw [drop_at h1, drop_at h2]
  simp
theorem part_eq_iff (p q : Part) : (decide (p.at_ = q.at_) && (decide (p.drop = q.drop) && (decide (p.take = q.take) && decide (p.up = q.up)))) = decide (p = q) := by
  cases p; cases q; simp
theorem ref_Same (a b : Term) (hl : a.parts.length ≤ 1000000000000) : PC Try.prog 18 [termV a, termV b] (.bool (decide (a = b))) := by
  refine pc_w' c_ref04_Same ?_
  unfold B_ref04_Same
  (repeat' (first | (simp (disch := omega) only [push_cast, ↓z1, ↓z2, ↓z3, ↓z4, ↓z5, ↓z6, ↓z7, ↓z8, ↓z9, ↓z10, ↓z11, ↓z12, ↓z13, ↓z14, ↓z15, ↓z16, ↓z17, ↓z18, ↓z19, ↓z20, ↓z21, ↓z22, ↓z23, ↓z24, ↓z25, ↓z26, ↓z27, ↓z28, ↓z29, ↓z30, ↓z31, ↓z32, ↓z33, ↓reduceIte, reduceCtorEq, Nat.reduceEqDiff, Nat.reduceAdd, Nat.reduceSub, Nat.reduceMul, Nat.reduceLT, Nat.reduceLeDiff, Int.reduceEq, Int.reduceLT, Int.reduceLE, Int.reduceAdd, Int.reduceSub, Int.reduceNeg, Int.reduceToNat]) | (with_reducible refine And.intro ?_ ?_) | (with_reducible refine condW_split ?_ ?_ <;> intro hc <;> (try simp only [push_cast] at hc)) | (with_reducible refine guardW_split ?_ ?_ <;> intro hc <;> (try simp only [push_cast] at hc)) | omega | (with_reducible intro _)))
  all_goals first
    | (have : a ≠ b := by intro h; subst h; first | omega | simp_all
       simp [this]; done)
    | skip
  have hab : decide (a = b) = decide (a.parts = b.parts) := by cases a; cases b; simp_all
  rw [hab]
  refine LoopK_T (T_loopR (fun (k : Nat) => k ≤ a.parts.length ∧ decide (a.parts = b.parts) = decide (a.parts.drop k = b.parts.drop k)) (fun k => a.parts.length - k)
    (fun k => [(2, .ptr 0 1 0 0), (3, .ptr 1 1 0 0), (5, .int .i64 k)])
    (fun s => [⟨6, 1, true, [termV a]⟩, ⟨6, 1, true, [termV b]⟩])
    (fun env _ => [srcOf 0 (env 2), srcOf 0 (env 3)]) 0 (by simp) ?_ ?_)
  · (repeat' (first | (simp (disch := omega) only [push_cast, ↓z1, ↓z2, ↓z3, ↓z4, ↓z5, ↓z6, ↓z7, ↓z8, ↓z9, ↓z10, ↓z11, ↓z12, ↓z13, ↓z14, ↓z15, ↓z16, ↓z17, ↓z18, ↓z19, ↓z20, ↓z21, ↓z22, ↓z23, ↓z24, ↓z25, ↓z26, ↓z27, ↓z28, ↓z29, ↓z30, ↓z31, ↓z32, ↓z33, ↓reduceIte, reduceCtorEq, Nat.reduceEqDiff, Nat.reduceAdd, Nat.reduceSub, Nat.reduceMul, Nat.reduceLT, Nat.reduceLeDiff, Int.reduceEq, Int.reduceLT, Int.reduceLE, Int.reduceAdd, Int.reduceSub, Int.reduceNeg, Int.reduceToNat]) | (with_reducible refine And.intro ?_ ?_) | (with_reducible refine condW_split ?_ ?_ <;> intro hc <;> (try simp only [push_cast] at hc)) | (with_reducible refine guardW_split ?_ ?_ <;> intro hc <;> (try simp only [push_cast] at hc)) | omega | (with_reducible intro _)))
  rintro k ⟨hk, hr⟩
  refine W_T ?_
  (repeat' (first | (simp (disch := omega) only [push_cast, ↓z1, ↓z2, ↓z3, ↓z4, ↓z5, ↓z6, ↓z7, ↓z8, ↓z9, ↓z10, ↓z11, ↓z12, ↓z13, ↓z14, ↓z15, ↓z16, ↓z17, ↓z18, ↓z19, ↓z20, ↓z21, ↓z22, ↓z23, ↓z24, ↓z25, ↓z26, ↓z27, ↓z28, ↓z29, ↓z30, ↓z31, ↓z32, ↓z33, ↓reduceIte, reduceCtorEq, Nat.reduceEqDiff, Nat.reduceAdd, Nat.reduceSub, Nat.reduceMul, Nat.reduceLT, Nat.reduceLeDiff, Int.reduceEq, Int.reduceLT, Int.reduceLE, Int.reduceAdd, Int.reduceSub, Int.reduceNeg, Int.reduceToNat, part_eq_iff]) | (with_reducible refine And.intro ?_ ?_) | (with_reducible refine condW_split ?_ ?_ <;> intro hc <;> (try simp only [push_cast] at hc)) | (with_reducible refine guardW_split ?_ ?_ <;> intro hc <;> (try simp only [push_cast] at hc)) | omega | (with_reducible intro _)))
  · rw [hr, partsEq_at (by omega) (by omega)]; simp [*]
  · refine ⟨k + 1, ?_⟩
    (repeat' (first | (simp (disch := omega) only [push_cast, ↓z1, ↓z2, ↓z3, ↓z4, ↓z5, ↓z6, ↓z7, ↓z8, ↓z9, ↓z10, ↓z11, ↓z12, ↓z13, ↓z14, ↓z15, ↓z16, ↓z17, ↓z18, ↓z19, ↓z20, ↓z21, ↓z22, ↓z23, ↓z24, ↓z25, ↓z26, ↓z27, ↓z28, ↓z29, ↓z30, ↓z31, ↓z32, ↓z33, ↓reduceIte, reduceCtorEq, Nat.reduceEqDiff, Nat.reduceAdd, Nat.reduceSub, Nat.reduceMul, Nat.reduceLT, Nat.reduceLeDiff, Int.reduceEq, Int.reduceLT, Int.reduceLE, Int.reduceAdd, Int.reduceSub, Int.reduceNeg, Int.reduceToNat]) | (with_reducible refine And.intro ?_ ?_) | (with_reducible refine condW_split ?_ ?_ <;> intro hc <;> (try simp only [push_cast] at hc)) | (with_reducible refine guardW_split ?_ ?_ <;> intro hc <;> (try simp only [push_cast] at hc)) | omega | (with_reducible intro _)))
    rw [hr, partsEq_at (by omega) (by omega)]; simp [*]
  · rw [hr, List.drop_of_length_le (by omega), List.drop_of_length_le (by omega)]; simp
def greatB (t : Term) (l : List (List Span)) : Bool := decide (20 < t.parts.length) || decide (20 < l.length) || l.any fun g => decide (50 < g.length)
theorem any_at {l : List (List Span)} {k : Nat} (h : k < l.length) : (l.drop k).any (fun g => decide (50 < g.length)) = (decide (50 < (nth l k).length) || (l.drop (k + 1)).any fun g => decide (50 < g.length)) := by rw [drop_at h, List.any_cons]
theorem law_great (t : Term) (l : List (List Span)) : PC Try.prog 13 [termV t, guardsV l] (.bool (greatB t l)) := by
  refine pc_w' c_law04_great ?_
  unfold B_law04_great
  (repeat' (first | (simp (disch := omega) only [push_cast, ↓z1, ↓z2, ↓z3, ↓z4, ↓z5, ↓z6, ↓z7, ↓z8, ↓z9, ↓z10, ↓z11, ↓z12, ↓z13, ↓z14, ↓z15, ↓z16, ↓z17, ↓z18, ↓z19, ↓z20, ↓z21, ↓z22, ↓z23, ↓z24, ↓z25, ↓z26, ↓z27, ↓z28, ↓z29, ↓z30, ↓z31, ↓z32, ↓z33, ↓reduceIte, reduceCtorEq, Nat.reduceEqDiff, Nat.reduceAdd, Nat.reduceSub, Nat.reduceMul, Nat.reduceLT, Nat.reduceLeDiff, Int.reduceEq, Int.reduceLT, Int.reduceLE, Int.reduceAdd, Int.reduceSub, Int.reduceNeg, Int.reduceToNat]) | (with_reducible refine And.intro ?_ ?_) | (with_reducible refine condW_split ?_ ?_ <;> intro hc <;> (try simp only [push_cast] at hc)) | (with_reducible refine guardW_split ?_ ?_ <;> intro hc <;> (try simp only [push_cast] at hc)) | omega | (with_reducible intro _)))
  · have : 20 < l.length := by omega
    simp [greatB, this]
  · have h1 : ¬ 20 < t.parts.length := by omega
    have h2 : ¬ 20 < l.length := by omega
    have hg : greatB t l = l.any fun g => decide (50 < g.length) := by simp [greatB, h1, h2]
    rw [hg]
    refine LoopK_T (T_loopR (fun (k : Nat) => k ≤ l.length ∧ (l.any fun g => decide (50 < g.length)) = (l.drop k).any fun g => decide (50 < g.length)) (fun k => l.length - k)
      (fun k => [(1, guardsV l), (5, .int .i64 k)]) (fun s => []) (fun env _ => []) 0 (by simp) ?_ ?_)
    · (repeat' (first | (simp (disch := omega) only [push_cast, ↓z1, ↓z2, ↓z3, ↓z4, ↓z5, ↓z6, ↓z7, ↓z8, ↓z9, ↓z10, ↓z11, ↓z12, ↓z13, ↓z14, ↓z15, ↓z16, ↓z17, ↓z18, ↓z19, ↓z20, ↓z21, ↓z22, ↓z23, ↓z24, ↓z25, ↓z26, ↓z27, ↓z28, ↓z29, ↓z30, ↓z31, ↓z32, ↓z33, ↓reduceIte, reduceCtorEq, Nat.reduceEqDiff, Nat.reduceAdd, Nat.reduceSub, Nat.reduceMul, Nat.reduceLT, Nat.reduceLeDiff, Int.reduceEq, Int.reduceLT, Int.reduceLE, Int.reduceAdd, Int.reduceSub, Int.reduceNeg, Int.reduceToNat]) | (with_reducible refine And.intro ?_ ?_) | (with_reducible refine condW_split ?_ ?_ <;> intro hc <;> (try simp only [push_cast] at hc)) | (with_reducible refine guardW_split ?_ ?_ <;> intro hc <;> (try simp only [push_cast] at hc)) | omega | (with_reducible intro _)))
    rintro k ⟨hk, hr⟩
    refine W_T ?_
    (repeat' (first | (simp (disch := omega) only [push_cast, ↓z1, ↓z2, ↓z3, ↓z4, ↓z5, ↓z6, ↓z7, ↓z8, ↓z9, ↓z10, ↓z11, ↓z12, ↓z13, ↓z14, ↓z15, ↓z16, ↓z17, ↓z18, ↓z19, ↓z20, ↓z21, ↓z22, ↓z23, ↓z24, ↓z25, ↓z26, ↓z27, ↓z28, ↓z29, ↓z30, ↓z31, ↓z32, ↓z33, ↓reduceIte, reduceCtorEq, Nat.reduceEqDiff, Nat.reduceAdd, Nat.reduceSub, Nat.reduceMul, Nat.reduceLT, Nat.reduceLeDiff, Int.reduceEq, Int.reduceLT, Int.reduceLE, Int.reduceAdd, Int.reduceSub, Int.reduceNeg, Int.reduceToNat]) | (with_reducible refine And.intro ?_ ?_) | (with_reducible refine condW_split ?_ ?_ <;> intro hc <;> (try simp only [push_cast] at hc)) | (with_reducible refine guardW_split ?_ ?_ <;> intro hc <;> (try simp only [push_cast] at hc)) | omega | (with_reducible intro _)))
    · rw [hr, any_at (by omega)]
      have : 50 < (nth l k).length := by omega
      simp [this]
    · refine ⟨k + 1, ?_⟩
      (repeat' (first | (simp (disch := omega) only [push_cast, ↓z1, ↓z2, ↓z3, ↓z4, ↓z5, ↓z6, ↓z7, ↓z8, ↓z9, ↓z10, ↓z11, ↓z12, ↓z13, ↓z14, ↓z15, ↓z16, ↓z17, ↓z18, ↓z19, ↓z20, ↓z21, ↓z22, ↓z23, ↓z24, ↓z25, ↓z26, ↓z27, ↓z28, ↓z29, ↓z30, ↓z31, ↓z32, ↓z33, ↓reduceIte, reduceCtorEq, Nat.reduceEqDiff, Nat.reduceAdd, Nat.reduceSub, Nat.reduceMul, Nat.reduceLT, Nat.reduceLeDiff, Int.reduceEq, Int.reduceLT, Int.reduceLE, Int.reduceAdd, Int.reduceSub, Int.reduceNeg, Int.reduceToNat]) | (with_reducible refine And.intro ?_ ?_) | (with_reducible refine condW_split ?_ ?_ <;> intro hc <;> (try simp only [push_cast] at hc)) | (with_reducible refine guardW_split ?_ ?_ <;> intro hc <;> (try simp only [push_cast] at hc)) | omega | (with_reducible intro _)))
      rw [hr, any_at (by omega)]
      have : ¬ 50 < (nth l k).length := by omega
      simp [this]
    · rw [hr, List.drop_of_length_le (by omega)]; rfl
  · have : 20 < t.parts.length := by omega
    simp [greatB, this]
theorem law_great0 (t : Term) : PC Try.prog 13 [termV t, .nilS] (.bool (decide (20 < t.parts.length))) := by
  have h := law_great t []
  have e : greatB t [] = decide (20 < t.parts.length) := by simp [greatB]
  rw [e] at h
  refine pc_weak h (leL_cons (AV.le_refl _) (leL_cons (AV.le_nilS (by decide)) leL_nil))
end Go.Proofs.Ytdjbcenfgceejaa
