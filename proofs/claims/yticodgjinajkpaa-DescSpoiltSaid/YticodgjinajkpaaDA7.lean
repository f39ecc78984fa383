/-
  The inner values of all windows of guards: term.values.
  The inner values of all windows of guards, of terms of four parts.
  All inner values, the values, and whether a term fits: term.inner, term.Image, term.Fits.
  Contracts of layer 6: spans, guards, terms of rules; heads.
  desc.cycle: epsilon rules, as the code goes through them.
  What is wrong first with a description: desc.Where, desc.Check.
  Sizes of descriptions: Free, Width, Ahead, Longest.
  Descriptions that are made: Empty, Same, copies, Join.
-/
import Derived.Test.YticodgjinajkpaaDA6
import Derived.Test.YticodgjinajkpaaDA5
set_option linter.unusedSimpArgs false
set_option linter.unusedVariables false
namespace Go.Proofs.Yticodgjinajkpaa
open Abs
def z1o (pl : List Int) (p : Part) : List Int := if p.at_ ∈ pl then pl else pl ++ [p.at_]
def z1r (l : List Part) : List Int := l.foldl z1o []
def atL (l : List Part) (a : Int) : List Part := l.filter fun p => decide (p.at_ = a)
def z0s (l : List Part) (sets : List (List Span)) (out : List Span) (a : Int) : List Span := zlh out (togL (atL l a) (nth sets a.toNat))
def z0p (t : Term) (sets : List (List Span)) : List Span := (z1r t.parts).foldl (z0s t.parts sets) [⟨t.sum, t.sum⟩]
def z1s (l : List Span) : Bool := decide (0 < (l.length : Int)) && (decide (0 ≤ (zlg (z0d l)).getD 0) && decide ((znc (z0d l)).getD 0 ≤ 1114111))
def Acc (l : List Span) : Prop := Bd l ∧ l.length ≤ 2147483649
theorem zea (l : List Span) : Acc (z0d l) := by
 refine ⟨fun s hs => ?_, z6r l⟩
 have := z2u l s hs
 omega
theorem zpo (a b : List Span) : Acc (zlh a b) := zea _
theorem zit (p : Part) (s : List Span) : Acc (imgL p s) := by
 unfold imgL
 repeat' split
 all_goals first | exact zea _ | exact ⟨fun s hs => (by cases hs), by simp⟩
theorem zpp (l : List Part) (s : List Span) : Acc (togL l s) := by
 unfold togL
 split
 · exact zit _ _
 · exact zea _
theorem z2h {x : Int} (h : z1n x = true) : Acc [⟨x, x⟩] := by
 refine ⟨fun s hs => ?_, by simp⟩
 have := z44 h
 simp only [List.mem_singleton] at hs
 subst hs
 simp only
 omega
structure z2c (l : List Part) (sets : List (List Span)) : Prop where
 parts : ∀ p ∈ l, z2t p sets.length = true
 syms : ∀ s ∈ sets, Syms s
 many : sets.length ≤ 1000
theorem zlk {s : List Span} (h : Syms s) : z0d s = s := zaa h.1 fun t ht => by have := h.2 t ht; omega
theorem z09 {l : List Part} {sets : List (List Span)} {out : List Span} {a : Int} (hS : z2c l sets) (hA : Acc out) (ha : 0 ≤ a ∧ a < sets.length) (hl : l.length ≤ 4) :
   PC Try.prog 110 [z0u (atL l a), z03 (nth sets a.toNat)] (z03 (togL (atL l a) (nth sets a.toNat))) ∧ PC Try.prog 109 [z03 out, z03 (togL (atL l a) (nth sets a.toNat))] (z03 (z0s l sets out a)) ∧ Acc (z0s l sets out a) := by
 have hm : nth sets a.toNat ∈ sets := z0k (by omega)
 have hs := hS.syms _ hm
 refine ⟨zis _ _ (Nat.le_trans (List.length_filter_le _ _) (by omega)) (fun p hp => ?_) (by have := hs.len; omega) (by rw [zlk hs]; exact hs), zwg _ _ (by have := hA.2; omega) (by have := (zpp (atL l a) (nth sets a.toNat)).2; omega) hA.1 (zpp _ _).1, zpo _ _⟩
 have := hS.parts p ((List.mem_filter.1 hp).1)
 simp only [z2t, Bool.and_eq_true] at this
 exact this.2
theorem zrv (bs dr tk up sm : Int) (sets : List (List Span)) (hs : z1n sm = true) (hS : z2c [] sets) :
   PC Try.prog 101 [z1m ⟨bs, dr, tk, up, sm, []⟩, z0b sets] (.tup [z03 (z0p ⟨bs, dr, tk, up, sm, []⟩ sets), .bool (z1s (z0p ⟨bs, dr, tk, up, sm, []⟩ sets))]) := by
 have hg := z06 sets
 have A0 := z2h hs
 have hv : z0p ⟨bs, dr, tk, up, sm, []⟩ sets = [⟨sm, sm⟩] := by simp [z0p, z1r, z1o]
 rw [hv]
 have hF := z0y ([⟨sm, sm⟩]) (by have := A0.2; omega)
 have hL := z1g ([⟨sm, sm⟩]) (by have := A0.2; omega)
 clear hS hv
 refine z0t z0o ?_
 unfold z0m
 (repeat' (first | (simp (disch := omega) only [push_cast, ↓zz, seval]) | (with_reducible first | refine And.intro ?_ ?_ | (first | refine z01 ?_ ?_ | refine z00 ?_ ?_) <;> intro hc <;> (try simp only [push_cast] at hc)) | omega | with_reducible intro _))
 refine z0q 6 ?_
 (repeat' (first | (simp (disch := omega) only [push_cast, ↓zz, seval, xx, List.mem_cons, List.not_mem_nil, or_false, false_or, not_or, not_false_eq_true, true_or, or_true, z1u, setM]) | (with_reducible first | refine And.intro ?_ ?_ | (first | refine z01 ?_ ?_ | refine z00 ?_ ?_) <;> intro hc <;> (try simp only [push_cast] at hc)) | ((with_reducible refine z0a ?_)) | ((with_reducible refine z2g [1] ?_)) | omega | with_reducible intro _))
 refine z0x 6 (fun env => [z0r 1 (env 6)]) [(1, z0b sets), (6, .map 0 1), (10, z03 [⟨sm, sm⟩]), (53, .lst 1 []), (54, .int .i64 0), (55, .int .i64 0)] [⟨0, 1, true, []⟩] ?_ ?_
 · (repeat' (first | (simp (disch := omega) only [push_cast, ↓zz, seval]) | (with_reducible first | refine And.intro ?_ ?_ | (first | refine z01 ?_ ?_ | refine z00 ?_ ?_) <;> intro hc <;> (try simp only [push_cast] at hc)) | omega | with_reducible intro _))
   all_goals (simp only [z1t]; done)
 (repeat' (first | (simp (disch := omega) only [push_cast, ↓zz, seval, z1u, z1s, hg]) | (with_reducible first | refine And.intro ?_ ?_ | (first | refine z01 ?_ ?_ | refine z00 ?_ ?_) <;> intro hc <;> (try simp only [push_cast] at hc)) | ((with_reducible refine z0a ?_)) | ((with_reducible first | refine eK hF ?_ | refine eQ hF ?_ | refine eG hF ?_)) | ((with_reducible first | refine eK hL ?_ | refine eQ hL ?_ | refine eG hL ?_)) | ((with_reducible first | refine cK hF ?_ | refine cQ hF ?_ | refine cG hF ?_); (simp (disch := omega) only [push_cast, ↓zz, seval, z1u, z1s, hg]); (fail_if_success (with_reducible change False))) | ((with_reducible first | refine cK hL ?_ | refine cQ hL ?_ | refine cG hL ?_); (simp (disch := omega) only [push_cast, ↓zz, seval, z1u, z1s, hg]); (fail_if_success (with_reducible change False))) | omega | with_reducible intro _))
 all_goals ((try simp only [*, decide_true, decide_false, Bool.true_and, Bool.false_and]); (repeat' (first | (simp (disch := omega) only [push_cast, ↓zz, seval, z1f]) | omega | (with_reducible refine And.intro ?_ ?_))))
theorem y0y (bs dr tk up sm : Int) (sets : List (List Span)) (hs : z1n sm = true) (hS : z2c [] sets) :
   PC Try.prog 101 [z1m ⟨bs, dr, tk, up, sm, []⟩, z0b sets] (.tup [z03 (z0p ⟨bs, dr, tk, up, sm, []⟩ sets), .bool (z1s (z0p ⟨bs, dr, tk, up, sm, []⟩ sets))]) := by
 exact zrv bs dr tk up sm  sets hs hS 
theorem zrw (bs dr tk up sm : Int) (p0 : Part) (sets : List (List Span)) (hs : z1n sm = true) (hS : z2c [p0] sets) :
   PC Try.prog 101 [z1m ⟨bs, dr, tk, up, sm, [p0]⟩, z0b sets] (.tup [z03 (z0p ⟨bs, dr, tk, up, sm, [p0]⟩ sets), .bool (z1s (z0p ⟨bs, dr, tk, up, sm, [p0]⟩ sets))]) := by
 have hg := z06 sets
 have b0 := z08 (hS.parts p0 (by simp))
 have A0 := z2h hs
 obtain ⟨T1, P1, A1⟩ := z09 (a := p0.at_) hS A0 (by omega) (by simp)
 have l1 : atL [p0] p0.at_ = [p0] := by simp [atL]
 rw [l1] at T1 P1
 have hv : z0p ⟨bs, dr, tk, up, sm, [p0]⟩ sets = z0s [p0] sets ([⟨sm, sm⟩]) p0.at_ := by simp [z0p, z1r, z1o]
 rw [hv]
 generalize ho1 : z0s [p0] sets ([⟨sm, sm⟩]) p0.at_ = o1 at *
 generalize ht1 : togL [p0] (nth sets p0.at_.toNat) = t1 at *
 have hF := z0y o1 (by have := A1.2; omega)
 have hL := z1g o1 (by have := A1.2; omega)
 clear hS hv ho1 ht1 l1
 refine z0t z0o ?_
 unfold z0m
 (repeat' (first | (simp (disch := omega) only [push_cast, ↓zz, seval]) | (with_reducible first | refine And.intro ?_ ?_ | (first | refine z01 ?_ ?_ | refine z00 ?_ ?_) <;> intro hc <;> (try simp only [push_cast] at hc)) | omega | with_reducible intro _))
 refine z0q 6 ?_
 (repeat' (first | (simp (disch := omega) only [push_cast, ↓zz, seval, xx, List.mem_cons, List.not_mem_nil, or_false, false_or, not_or, not_false_eq_true, true_or, or_true, z1u, setM]) | (with_reducible first | refine And.intro ?_ ?_ | (first | refine z01 ?_ ?_ | refine z00 ?_ ?_) <;> intro hc <;> (try simp only [push_cast] at hc)) | ((with_reducible refine z0a ?_)) | ((with_reducible refine z2g [1] ?_)) | omega | with_reducible intro _))
 refine z0x 6 (fun env => [z0r 1 (env 6)]) [(1, z0b sets), (6, .map 0 1), (10, z03 [⟨sm, sm⟩]), (53, .lst 1 [.int .i64 p0.at_]), (54, .int .i64 1), (55, .int .i64 0)] [⟨0, 1, true, [.int .i64 p0.at_, z0u [p0]]⟩] ?_ ?_
 · (repeat' (first | (simp (disch := omega) only [push_cast, ↓zz, seval]) | (with_reducible first | refine And.intro ?_ ?_ | (first | refine z01 ?_ ?_ | refine z00 ?_ ?_) <;> intro hc <;> (try simp only [push_cast] at hc)) | omega | with_reducible intro _))
   all_goals (simp only [z1t]; done)
 (repeat' (first | (simp (disch := omega) only [push_cast, ↓zz, seval, z1u, z1s, hg]) | (with_reducible first | refine And.intro ?_ ?_ | (first | refine z01 ?_ ?_ | refine z00 ?_ ?_) <;> intro hc <;> (try simp only [push_cast] at hc)) | ((with_reducible refine z0a ?_)) | ((with_reducible first | refine eQ T1 ?_ | refine eQ P1 ?_)) | ((with_reducible first | refine eK hF ?_ | refine eK hL ?_)) | omega | with_reducible intro _))
 all_goals ((try simp only [*, decide_true, decide_false, Bool.true_and, Bool.false_and]); (repeat' (first | (simp (disch := omega) only [push_cast, ↓zz, seval, z1f]) | omega | (with_reducible refine And.intro ?_ ?_))))
theorem y0z (bs dr tk up sm : Int) (p0 : Part) (sets : List (List Span)) (hs : z1n sm = true) (hS : z2c [p0] sets) :
   PC Try.prog 101 [z1m ⟨bs, dr, tk, up, sm, [p0]⟩, z0b sets] (.tup [z03 (z0p ⟨bs, dr, tk, up, sm, [p0]⟩ sets), .bool (z1s (z0p ⟨bs, dr, tk, up, sm, [p0]⟩ sets))]) := by
 exact zrw bs dr tk up sm p0 sets hs hS 
theorem zrx (bs dr tk up sm : Int) (p0 p1 : Part) (sets : List (List Span)) (hs : z1n sm = true) (hS : z2c [p0, p1] sets) (e1 : p1.at_ = p0.at_) :
   PC Try.prog 101 [z1m ⟨bs, dr, tk, up, sm, [p0, p1]⟩, z0b sets] (.tup [z03 (z0p ⟨bs, dr, tk, up, sm, [p0, p1]⟩ sets), .bool (z1s (z0p ⟨bs, dr, tk, up, sm, [p0, p1]⟩ sets))]) := by
 have hg := z06 sets
 have b0 := z08 (hS.parts p0 (by simp))
 have b1 := z08 (hS.parts p1 (by simp))
 have A0 := z2h hs
 obtain ⟨T1, P1, A1⟩ := z09 (a := p0.at_) hS A0 (by omega) (by simp)
 have l1 : atL [p0, p1] p0.at_ = [p0, p1] := by simp [atL, e1]
 rw [l1] at T1 P1
 have hv : z0p ⟨bs, dr, tk, up, sm, [p0, p1]⟩ sets = z0s [p0, p1] sets ([⟨sm, sm⟩]) p0.at_ := by simp [z0p, z1r, z1o, e1]
 rw [hv]
 generalize ho1 : z0s [p0, p1] sets ([⟨sm, sm⟩]) p0.at_ = o1 at *
 generalize ht1 : togL [p0, p1] (nth sets p0.at_.toNat) = t1 at *
 have hF := z0y o1 (by have := A1.2; omega)
 have hL := z1g o1 (by have := A1.2; omega)
 clear hS hv ho1 ht1 l1
 refine z0t z0o ?_
 unfold z0m
 (repeat' (first | (simp (disch := omega) only [push_cast, ↓zz, seval]) | (with_reducible first | refine And.intro ?_ ?_ | (first | refine z01 ?_ ?_ | refine z00 ?_ ?_) <;> intro hc <;> (try simp only [push_cast] at hc)) | omega | with_reducible intro _))
 refine z0q 6 ?_
 (repeat' (first | (simp (disch := omega) only [push_cast, ↓zz, seval, xx, List.mem_cons, List.not_mem_nil, or_false, false_or, not_or, not_false_eq_true, true_or, or_true, z1u, setM, e1]) | (with_reducible first | refine And.intro ?_ ?_ | (first | refine z01 ?_ ?_ | refine z00 ?_ ?_) <;> intro hc <;> (try simp only [push_cast] at hc)) | ((with_reducible refine z0a ?_)) | ((with_reducible refine z2g [1, 5] ?_)) | omega | with_reducible intro _))
 refine z0x 6 (fun env => [z0r 1 (env 6)]) [(1, z0b sets), (6, .map 0 1), (10, z03 [⟨sm, sm⟩]), (53, .lst 1 [.int .i64 p0.at_]), (54, .int .i64 1), (55, .int .i64 0)] [⟨0, 1, true, [.int .i64 p0.at_, z0u [p0, p1]]⟩] ?_ ?_
 · (repeat' (first | (simp (disch := omega) only [push_cast, ↓zz, seval, e1]) | (with_reducible first | refine And.intro ?_ ?_ | (first | refine z01 ?_ ?_ | refine z00 ?_ ?_) <;> intro hc <;> (try simp only [push_cast] at hc)) | omega | with_reducible intro _))
   all_goals (simp only [z1t, e1]; done)
 (repeat' (first | (simp (disch := omega) only [push_cast, ↓zz, seval, z1u, z1s, hg, e1]) | (with_reducible first | refine And.intro ?_ ?_ | (first | refine z01 ?_ ?_ | refine z00 ?_ ?_) <;> intro hc <;> (try simp only [push_cast] at hc)) | ((with_reducible refine z0a ?_)) | ((with_reducible first | refine eQ T1 ?_ | refine eQ P1 ?_)) | ((with_reducible first | refine eK hF ?_ | refine eK hL ?_)) | omega | with_reducible intro _))
 all_goals ((try simp only [*, decide_true, decide_false, Bool.true_and, Bool.false_and]); (repeat' (first | (simp (disch := omega) only [push_cast, ↓zz, seval, z1f]) | omega | (with_reducible refine And.intro ?_ ?_))))
theorem zry (bs dr tk up sm : Int) (p0 p1 : Part) (sets : List (List Span)) (hs : z1n sm = true) (hS : z2c [p0, p1] sets) (n01 : ¬ p0.at_ = p1.at_) :
   PC Try.prog 101 [z1m ⟨bs, dr, tk, up, sm, [p0, p1]⟩, z0b sets] (.tup [z03 (z0p ⟨bs, dr, tk, up, sm, [p0, p1]⟩ sets), .bool (z1s (z0p ⟨bs, dr, tk, up, sm, [p0, p1]⟩ sets))]) := by
 have hg := z06 sets
 have b0 := z08 (hS.parts p0 (by simp))
 have b1 := z08 (hS.parts p1 (by simp))
 have A0 := z2h hs
 obtain ⟨T1, P1, A1⟩ := z09 (a := p0.at_) hS A0 (by omega) (by simp)
 have l1 : atL [p0, p1] p0.at_ = [p0] := by simp [atL, n01, Ne.symm (show p0.at_ ≠ p1.at_ from n01)]
 rw [l1] at T1 P1
 obtain ⟨T2, P2, A2⟩ := z09 (a := p1.at_) hS A1 (by omega) (by simp)
 have l2 : atL [p0, p1] p1.at_ = [p1] := by simp [atL, n01, Ne.symm (show p0.at_ ≠ p1.at_ from n01)]
 rw [l2] at T2 P2
 have hv : z0p ⟨bs, dr, tk, up, sm, [p0, p1]⟩ sets = z0s [p0, p1] sets (z0s [p0, p1] sets ([⟨sm, sm⟩]) p0.at_) p1.at_ := by simp [z0p, z1r, z1o, n01, Ne.symm (show p0.at_ ≠ p1.at_ from n01)]
 rw [hv]
 generalize ho1 : z0s [p0, p1] sets ([⟨sm, sm⟩]) p0.at_ = o1 at *
 generalize ht1 : togL [p0] (nth sets p0.at_.toNat) = t1 at *
 generalize ho2 : z0s [p0, p1] sets (o1) p1.at_ = o2 at *
 generalize ht2 : togL [p1] (nth sets p1.at_.toNat) = t2 at *
 have hF := z0y o2 (by have := A2.2; omega)
 have hL := z1g o2 (by have := A2.2; omega)
 clear hS hv ho1 ht1 l1 ho2 ht2 l2
 refine z0t z0o ?_
 unfold z0m
 (repeat' (first | (simp (disch := omega) only [push_cast, ↓zz, seval]) | (with_reducible first | refine And.intro ?_ ?_ | (first | refine z01 ?_ ?_ | refine z00 ?_ ?_) <;> intro hc <;> (try simp only [push_cast] at hc)) | omega | with_reducible intro _))
 refine z0q 6 ?_
 (repeat' (first | (simp (disch := omega) only [push_cast, ↓zz, seval, xx, List.mem_cons, List.not_mem_nil, or_false, false_or, not_or, not_false_eq_true, true_or, or_true, z1u, setM, n01]) | (with_reducible first | refine And.intro ?_ ?_ | (first | refine z01 ?_ ?_ | refine z00 ?_ ?_) <;> intro hc <;> (try simp only [push_cast] at hc)) | ((with_reducible refine z0a ?_)) | ((with_reducible refine z2g [1] ?_)) | omega | with_reducible intro _))
 refine z0x 6 (fun env => [z0r 1 (env 6)]) [(1, z0b sets), (6, .map 0 1), (10, z03 [⟨sm, sm⟩]), (53, .lst 1 [.int .i64 p0.at_, .int .i64 p1.at_]), (54, .int .i64 2), (55, .int .i64 0)] [⟨0, 1, true, [.int .i64 p0.at_, z0u [p0], .int .i64 p1.at_, z0u [p1]]⟩] ?_ ?_
 · (repeat' (first | (simp (disch := omega) only [push_cast, ↓zz, seval, n01]) | (with_reducible first | refine And.intro ?_ ?_ | (first | refine z01 ?_ ?_ | refine z00 ?_ ?_) <;> intro hc <;> (try simp only [push_cast] at hc)) | omega | with_reducible intro _))
   all_goals (simp only [z1t, n01]; done)
 (repeat' (first | (simp (disch := omega) only [push_cast, ↓zz, seval, z1u, z1s, hg, n01]) | (with_reducible first | refine And.intro ?_ ?_ | (first | refine z01 ?_ ?_ | refine z00 ?_ ?_) <;> intro hc <;> (try simp only [push_cast] at hc)) | ((with_reducible refine z0a ?_)) | ((with_reducible first | refine eQ T1 ?_ | refine eQ P1 ?_)) | ((with_reducible first | refine eQ T2 ?_ | refine eQ P2 ?_)) | ((with_reducible first | refine eK hF ?_ | refine eK hL ?_)) | omega | with_reducible intro _))
 all_goals ((try simp only [*, decide_true, decide_false, Bool.true_and, Bool.false_and]); (repeat' (first | (simp (disch := omega) only [push_cast, ↓zz, seval, z1f]) | omega | (with_reducible refine And.intro ?_ ?_))))
theorem y10 (bs dr tk up sm : Int) (p0 p1 : Part) (sets : List (List Span)) (hs : z1n sm = true) (hS : z2c [p0, p1] sets) :
   PC Try.prog 101 [z1m ⟨bs, dr, tk, up, sm, [p0, p1]⟩, z0b sets] (.tup [z03 (z0p ⟨bs, dr, tk, up, sm, [p0, p1]⟩ sets), .bool (z1s (z0p ⟨bs, dr, tk, up, sm, [p0, p1]⟩ sets))]) := by
 rcases Classical.em (p1.at_ = p0.at_) with e1 | x01
 · skip
   exact zrx bs dr tk up sm p0 p1 sets hs hS e1
 have n01 : ¬ p0.at_ = p1.at_ := fun h => x01 h.symm
 exact zry bs dr tk up sm p0 p1 sets hs hS n01
theorem zrz (bs dr tk up sm : Int) (p0 p1 p2 : Part) (sets : List (List Span)) (hs : z1n sm = true) (hS : z2c [p0, p1, p2] sets) (e1 : p1.at_ = p0.at_) (e2 : p2.at_ = p0.at_) :
   PC Try.prog 101 [z1m ⟨bs, dr, tk, up, sm, [p0, p1, p2]⟩, z0b sets] (.tup [z03 (z0p ⟨bs, dr, tk, up, sm, [p0, p1, p2]⟩ sets), .bool (z1s (z0p ⟨bs, dr, tk, up, sm, [p0, p1, p2]⟩ sets))]) := by
 have hg := z06 sets
 have b0 := z08 (hS.parts p0 (by simp))
 have b1 := z08 (hS.parts p1 (by simp))
 have b2 := z08 (hS.parts p2 (by simp))
 have A0 := z2h hs
 obtain ⟨T1, P1, A1⟩ := z09 (a := p0.at_) hS A0 (by omega) (by simp)
 have l1 : atL [p0, p1, p2] p0.at_ = [p0, p1, p2] := by simp [atL, e1, e2]
 rw [l1] at T1 P1
 have hv : z0p ⟨bs, dr, tk, up, sm, [p0, p1, p2]⟩ sets = z0s [p0, p1, p2] sets ([⟨sm, sm⟩]) p0.at_ := by simp [z0p, z1r, z1o, e1, e2]
 rw [hv]
 generalize ho1 : z0s [p0, p1, p2] sets ([⟨sm, sm⟩]) p0.at_ = o1 at *
 generalize ht1 : togL [p0, p1, p2] (nth sets p0.at_.toNat) = t1 at *
 have hF := z0y o1 (by have := A1.2; omega)
 have hL := z1g o1 (by have := A1.2; omega)
 clear hS hv ho1 ht1 l1
 refine z0t z0o ?_
 unfold z0m
 (repeat' (first | (simp (disch := omega) only [push_cast, ↓zz, seval]) | (with_reducible first | refine And.intro ?_ ?_ | (first | refine z01 ?_ ?_ | refine z00 ?_ ?_) <;> intro hc <;> (try simp only [push_cast] at hc)) | omega | with_reducible intro _))
 refine z0q 6 ?_
 (repeat' (first | (simp (disch := omega) only [push_cast, ↓zz, seval, xx, List.mem_cons, List.not_mem_nil, or_false, false_or, not_or, not_false_eq_true, true_or, or_true, z1u, setM, e1, e2]) | (with_reducible first | refine And.intro ?_ ?_ | (first | refine z01 ?_ ?_ | refine z00 ?_ ?_) <;> intro hc <;> (try simp only [push_cast] at hc)) | ((with_reducible refine z0a ?_)) | ((with_reducible refine z2g [1, 5] ?_)) | omega | with_reducible intro _))
 refine z0x 6 (fun env => [z0r 1 (env 6)]) [(1, z0b sets), (6, .map 0 1), (10, z03 [⟨sm, sm⟩]), (53, .lst 1 [.int .i64 p0.at_]), (54, .int .i64 1), (55, .int .i64 0)] [⟨0, 1, true, [.int .i64 p0.at_, z0u [p0, p1, p2]]⟩] ?_ ?_
 · (repeat' (first | (simp (disch := omega) only [push_cast, ↓zz, seval, e1, e2]) | (with_reducible first | refine And.intro ?_ ?_ | (first | refine z01 ?_ ?_ | refine z00 ?_ ?_) <;> intro hc <;> (try simp only [push_cast] at hc)) | omega | with_reducible intro _))
   all_goals (simp only [z1t, e1, e2]; done)
 (repeat' (first | (simp (disch := omega) only [push_cast, ↓zz, seval, z1u, z1s, hg, e1, e2]) | (with_reducible first | refine And.intro ?_ ?_ | (first | refine z01 ?_ ?_ | refine z00 ?_ ?_) <;> intro hc <;> (try simp only [push_cast] at hc)) | ((with_reducible refine z0a ?_)) | ((with_reducible first | refine eQ T1 ?_ | refine eQ P1 ?_)) | ((with_reducible first | refine eK hF ?_ | refine eK hL ?_)) | omega | with_reducible intro _))
 all_goals ((try simp only [*, decide_true, decide_false, Bool.true_and, Bool.false_and]); (repeat' (first | (simp (disch := omega) only [push_cast, ↓zz, seval, z1f]) | omega | (with_reducible refine And.intro ?_ ?_))))
theorem zs0 (bs dr tk up sm : Int) (p0 p1 p2 : Part) (sets : List (List Span)) (hs : z1n sm = true) (hS : z2c [p0, p1, p2] sets) (e1 : p1.at_ = p0.at_) (n02 : ¬ p0.at_ = p2.at_) :
   PC Try.prog 101 [z1m ⟨bs, dr, tk, up, sm, [p0, p1, p2]⟩, z0b sets] (.tup [z03 (z0p ⟨bs, dr, tk, up, sm, [p0, p1, p2]⟩ sets), .bool (z1s (z0p ⟨bs, dr, tk, up, sm, [p0, p1, p2]⟩ sets))]) := by
 have hg := z06 sets
 have b0 := z08 (hS.parts p0 (by simp))
 have b1 := z08 (hS.parts p1 (by simp))
 have b2 := z08 (hS.parts p2 (by simp))
 have A0 := z2h hs
 obtain ⟨T1, P1, A1⟩ := z09 (a := p0.at_) hS A0 (by omega) (by simp)
 have l1 : atL [p0, p1, p2] p0.at_ = [p0, p1] := by simp [atL, e1, n02, Ne.symm (show p0.at_ ≠ p2.at_ from n02)]
 rw [l1] at T1 P1
 obtain ⟨T2, P2, A2⟩ := z09 (a := p2.at_) hS A1 (by omega) (by simp)
 have l2 : atL [p0, p1, p2] p2.at_ = [p2] := by simp [atL, e1, n02, Ne.symm (show p0.at_ ≠ p2.at_ from n02)]
 rw [l2] at T2 P2
 have hv : z0p ⟨bs, dr, tk, up, sm, [p0, p1, p2]⟩ sets = z0s [p0, p1, p2] sets (z0s [p0, p1, p2] sets ([⟨sm, sm⟩]) p0.at_) p2.at_ := by simp [z0p, z1r, z1o, e1, n02, Ne.symm (show p0.at_ ≠ p2.at_ from n02)]
 rw [hv]
 generalize ho1 : z0s [p0, p1, p2] sets ([⟨sm, sm⟩]) p0.at_ = o1 at *
 generalize ht1 : togL [p0, p1] (nth sets p0.at_.toNat) = t1 at *
 generalize ho2 : z0s [p0, p1, p2] sets (o1) p2.at_ = o2 at *
 generalize ht2 : togL [p2] (nth sets p2.at_.toNat) = t2 at *
 have hF := z0y o2 (by have := A2.2; omega)
 have hL := z1g o2 (by have := A2.2; omega)
 clear hS hv ho1 ht1 l1 ho2 ht2 l2
 refine z0t z0o ?_
 unfold z0m
 (repeat' (first | (simp (disch := omega) only [push_cast, ↓zz, seval]) | (with_reducible first | refine And.intro ?_ ?_ | (first | refine z01 ?_ ?_ | refine z00 ?_ ?_) <;> intro hc <;> (try simp only [push_cast] at hc)) | omega | with_reducible intro _))
 refine z0q 6 ?_
 (repeat' (first | (simp (disch := omega) only [push_cast, ↓zz, seval, xx, List.mem_cons, List.not_mem_nil, or_false, false_or, not_or, not_false_eq_true, true_or, or_true, z1u, setM, e1, n02]) | (with_reducible first | refine And.intro ?_ ?_ | (first | refine z01 ?_ ?_ | refine z00 ?_ ?_) <;> intro hc <;> (try simp only [push_cast] at hc)) | ((with_reducible refine z0a ?_)) | ((with_reducible refine z2g [1, 5] ?_)) | omega | with_reducible intro _))
 refine z0x 6 (fun env => [z0r 1 (env 6)]) [(1, z0b sets), (6, .map 0 1), (10, z03 [⟨sm, sm⟩]), (53, .lst 1 [.int .i64 p0.at_, .int .i64 p2.at_]), (54, .int .i64 2), (55, .int .i64 0)] [⟨0, 1, true, [.int .i64 p0.at_, z0u [p0, p1], .int .i64 p2.at_, z0u [p2]]⟩] ?_ ?_
 · (repeat' (first | (simp (disch := omega) only [push_cast, ↓zz, seval, e1, n02]) | (with_reducible first | refine And.intro ?_ ?_ | (first | refine z01 ?_ ?_ | refine z00 ?_ ?_) <;> intro hc <;> (try simp only [push_cast] at hc)) | omega | with_reducible intro _))
   all_goals (simp only [z1t, e1, n02]; done)
 (repeat' (first | (simp (disch := omega) only [push_cast, ↓zz, seval, z1u, z1s, hg, e1, n02]) | (with_reducible first | refine And.intro ?_ ?_ | (first | refine z01 ?_ ?_ | refine z00 ?_ ?_) <;> intro hc <;> (try simp only [push_cast] at hc)) | ((with_reducible refine z0a ?_)) | ((with_reducible first | refine eQ T1 ?_ | refine eQ P1 ?_)) | ((with_reducible first | refine eQ T2 ?_ | refine eQ P2 ?_)) | ((with_reducible first | refine eK hF ?_ | refine eK hL ?_)) | omega | with_reducible intro _))
 all_goals ((try simp only [*, decide_true, decide_false, Bool.true_and, Bool.false_and]); (repeat' (first | (simp (disch := omega) only [push_cast, ↓zz, seval, z1f]) | omega | (with_reducible refine And.intro ?_ ?_))))
theorem zs1 (bs dr tk up sm : Int) (p0 p1 p2 : Part) (sets : List (List Span)) (hs : z1n sm = true) (hS : z2c [p0, p1, p2] sets) (e2 : p2.at_ = p0.at_) (n01 : ¬ p0.at_ = p1.at_) :
   PC Try.prog 101 [z1m ⟨bs, dr, tk, up, sm, [p0, p1, p2]⟩, z0b sets] (.tup [z03 (z0p ⟨bs, dr, tk, up, sm, [p0, p1, p2]⟩ sets), .bool (z1s (z0p ⟨bs, dr, tk, up, sm, [p0, p1, p2]⟩ sets))]) := by
 have hg := z06 sets
 have b0 := z08 (hS.parts p0 (by simp))
 have b1 := z08 (hS.parts p1 (by simp))
 have b2 := z08 (hS.parts p2 (by simp))
 have A0 := z2h hs
 obtain ⟨T1, P1, A1⟩ := z09 (a := p0.at_) hS A0 (by omega) (by simp)
 have l1 : atL [p0, p1, p2] p0.at_ = [p0, p2] := by simp [atL, e2, n01, Ne.symm (show p0.at_ ≠ p1.at_ from n01)]
 rw [l1] at T1 P1
 obtain ⟨T2, P2, A2⟩ := z09 (a := p1.at_) hS A1 (by omega) (by simp)
 have l2 : atL [p0, p1, p2] p1.at_ = [p1] := by simp [atL, e2, n01, Ne.symm (show p0.at_ ≠ p1.at_ from n01)]
 rw [l2] at T2 P2
 have hv : z0p ⟨bs, dr, tk, up, sm, [p0, p1, p2]⟩ sets = z0s [p0, p1, p2] sets (z0s [p0, p1, p2] sets ([⟨sm, sm⟩]) p0.at_) p1.at_ := by simp [z0p, z1r, z1o, e2, n01, Ne.symm (show p0.at_ ≠ p1.at_ from n01)]
 rw [hv]
 generalize ho1 : z0s [p0, p1, p2] sets ([⟨sm, sm⟩]) p0.at_ = o1 at *
 generalize ht1 : togL [p0, p2] (nth sets p0.at_.toNat) = t1 at *
 generalize ho2 : z0s [p0, p1, p2] sets (o1) p1.at_ = o2 at *
 generalize ht2 : togL [p1] (nth sets p1.at_.toNat) = t2 at *
 have hF := z0y o2 (by have := A2.2; omega)
 have hL := z1g o2 (by have := A2.2; omega)
 clear hS hv ho1 ht1 l1 ho2 ht2 l2
 refine z0t z0o ?_
 unfold z0m
 (repeat' (first | (simp (disch := omega) only [push_cast, ↓zz, seval]) | (with_reducible first | refine And.intro ?_ ?_ | (first | refine z01 ?_ ?_ | refine z00 ?_ ?_) <;> intro hc <;> (try simp only [push_cast] at hc)) | omega | with_reducible intro _))
 refine z0q 6 ?_
 (repeat' (first | (simp (disch := omega) only [push_cast, ↓zz, seval, xx, List.mem_cons, List.not_mem_nil, or_false, false_or, not_or, not_false_eq_true, true_or, or_true, z1u, setM, e2, n01]) | (with_reducible first | refine And.intro ?_ ?_ | (first | refine z01 ?_ ?_ | refine z00 ?_ ?_) <;> intro hc <;> (try simp only [push_cast] at hc)) | ((with_reducible refine z0a ?_)) | ((with_reducible refine z2g [1, 5] ?_)) | omega | with_reducible intro _))
 refine z0x 6 (fun env => [z0r 1 (env 6)]) [(1, z0b sets), (6, .map 0 1), (10, z03 [⟨sm, sm⟩]), (53, .lst 1 [.int .i64 p0.at_, .int .i64 p1.at_]), (54, .int .i64 2), (55, .int .i64 0)] [⟨0, 1, true, [.int .i64 p0.at_, z0u [p0, p2], .int .i64 p1.at_, z0u [p1]]⟩] ?_ ?_
 · (repeat' (first | (simp (disch := omega) only [push_cast, ↓zz, seval, e2, n01]) | (with_reducible first | refine And.intro ?_ ?_ | (first | refine z01 ?_ ?_ | refine z00 ?_ ?_) <;> intro hc <;> (try simp only [push_cast] at hc)) | omega | with_reducible intro _))
   all_goals (simp only [z1t, e2, n01]; done)
 (repeat' (first | (simp (disch := omega) only [push_cast, ↓zz, seval, z1u, z1s, hg, e2, n01]) | (with_reducible first | refine And.intro ?_ ?_ | (first | refine z01 ?_ ?_ | refine z00 ?_ ?_) <;> intro hc <;> (try simp only [push_cast] at hc)) | ((with_reducible refine z0a ?_)) | ((with_reducible first | refine eQ T1 ?_ | refine eQ P1 ?_)) | ((with_reducible first | refine eQ T2 ?_ | refine eQ P2 ?_)) | ((with_reducible first | refine eK hF ?_ | refine eK hL ?_)) | omega | with_reducible intro _))
 all_goals ((try simp only [*, decide_true, decide_false, Bool.true_and, Bool.false_and]); (repeat' (first | (simp (disch := omega) only [push_cast, ↓zz, seval, z1f]) | omega | (with_reducible refine And.intro ?_ ?_))))
theorem zs2 (bs dr tk up sm : Int) (p0 p1 p2 : Part) (sets : List (List Span)) (hs : z1n sm = true) (hS : z2c [p0, p1, p2] sets) (e2 : p2.at_ = p1.at_) (n01 : ¬ p0.at_ = p1.at_) :
   PC Try.prog 101 [z1m ⟨bs, dr, tk, up, sm, [p0, p1, p2]⟩, z0b sets] (.tup [z03 (z0p ⟨bs, dr, tk, up, sm, [p0, p1, p2]⟩ sets), .bool (z1s (z0p ⟨bs, dr, tk, up, sm, [p0, p1, p2]⟩ sets))]) := by
 have hg := z06 sets
 have b0 := z08 (hS.parts p0 (by simp))
 have b1 := z08 (hS.parts p1 (by simp))
 have b2 := z08 (hS.parts p2 (by simp))
 have A0 := z2h hs
 obtain ⟨T1, P1, A1⟩ := z09 (a := p0.at_) hS A0 (by omega) (by simp)
 have l1 : atL [p0, p1, p2] p0.at_ = [p0] := by simp [atL, e2, n01, Ne.symm (show p0.at_ ≠ p1.at_ from n01)]
 rw [l1] at T1 P1
 obtain ⟨T2, P2, A2⟩ := z09 (a := p1.at_) hS A1 (by omega) (by simp)
 have l2 : atL [p0, p1, p2] p1.at_ = [p1, p2] := by simp [atL, e2, n01, Ne.symm (show p0.at_ ≠ p1.at_ from n01)]
 rw [l2] at T2 P2
 have hv : z0p ⟨bs, dr, tk, up, sm, [p0, p1, p2]⟩ sets = z0s [p0, p1, p2] sets (z0s [p0, p1, p2] sets ([⟨sm, sm⟩]) p0.at_) p1.at_ := by simp [z0p, z1r, z1o, e2, n01, Ne.symm (show p0.at_ ≠ p1.at_ from n01)]
 rw [hv]
 generalize ho1 : z0s [p0, p1, p2] sets ([⟨sm, sm⟩]) p0.at_ = o1 at *
 generalize ht1 : togL [p0] (nth sets p0.at_.toNat) = t1 at *
 generalize ho2 : z0s [p0, p1, p2] sets (o1) p1.at_ = o2 at *
 generalize ht2 : togL [p1, p2] (nth sets p1.at_.toNat) = t2 at *
 have hF := z0y o2 (by have := A2.2; omega)
 have hL := z1g o2 (by have := A2.2; omega)
 clear hS hv ho1 ht1 l1 ho2 ht2 l2
 refine z0t z0o ?_
 unfold z0m
 (repeat' (first | (simp (disch := omega) only [push_cast, ↓zz, seval]) | (with_reducible first | refine And.intro ?_ ?_ | (first | refine z01 ?_ ?_ | refine z00 ?_ ?_) <;> intro hc <;> (try simp only [push_cast] at hc)) | omega | with_reducible intro _))
 refine z0q 6 ?_
 (repeat' (first | (simp (disch := omega) only [push_cast, ↓zz, seval, xx, List.mem_cons, List.not_mem_nil, or_false, false_or, not_or, not_false_eq_true, true_or, or_true, z1u, setM, e2, n01]) | (with_reducible first | refine And.intro ?_ ?_ | (first | refine z01 ?_ ?_ | refine z00 ?_ ?_) <;> intro hc <;> (try simp only [push_cast] at hc)) | ((with_reducible refine z0a ?_)) | ((with_reducible refine z2g [1, 8] ?_)) | omega | with_reducible intro _))
 refine z0x 6 (fun env => [z0r 1 (env 6)]) [(1, z0b sets), (6, .map 0 1), (10, z03 [⟨sm, sm⟩]), (53, .lst 1 [.int .i64 p0.at_, .int .i64 p1.at_]), (54, .int .i64 2), (55, .int .i64 0)] [⟨0, 1, true, [.int .i64 p0.at_, z0u [p0], .int .i64 p1.at_, z0u [p1, p2]]⟩] ?_ ?_
 · (repeat' (first | (simp (disch := omega) only [push_cast, ↓zz, seval, e2, n01]) | (with_reducible first | refine And.intro ?_ ?_ | (first | refine z01 ?_ ?_ | refine z00 ?_ ?_) <;> intro hc <;> (try simp only [push_cast] at hc)) | omega | with_reducible intro _))
   all_goals (simp only [z1t, e2, n01]; done)
 (repeat' (first | (simp (disch := omega) only [push_cast, ↓zz, seval, z1u, z1s, hg, e2, n01]) | (with_reducible first | refine And.intro ?_ ?_ | (first | refine z01 ?_ ?_ | refine z00 ?_ ?_) <;> intro hc <;> (try simp only [push_cast] at hc)) | ((with_reducible refine z0a ?_)) | ((with_reducible first | refine eQ T1 ?_ | refine eQ P1 ?_)) | ((with_reducible first | refine eQ T2 ?_ | refine eQ P2 ?_)) | ((with_reducible first | refine eK hF ?_ | refine eK hL ?_)) | omega | with_reducible intro _))
 all_goals ((try simp only [*, decide_true, decide_false, Bool.true_and, Bool.false_and]); (repeat' (first | (simp (disch := omega) only [push_cast, ↓zz, seval, z1f]) | omega | (with_reducible refine And.intro ?_ ?_))))
theorem zs3 (bs dr tk up sm : Int) (p0 p1 p2 : Part) (sets : List (List Span)) (hs : z1n sm = true) (hS : z2c [p0, p1, p2] sets) (n01 : ¬ p0.at_ = p1.at_) (n02 : ¬ p0.at_ = p2.at_) (n12 : ¬ p1.at_ = p2.at_) :
   PC Try.prog 101 [z1m ⟨bs, dr, tk, up, sm, [p0, p1, p2]⟩, z0b sets] (.tup [z03 (z0p ⟨bs, dr, tk, up, sm, [p0, p1, p2]⟩ sets), .bool (z1s (z0p ⟨bs, dr, tk, up, sm, [p0, p1, p2]⟩ sets))]) := by
 have hg := z06 sets
 have b0 := z08 (hS.parts p0 (by simp))
 have b1 := z08 (hS.parts p1 (by simp))
 have b2 := z08 (hS.parts p2 (by simp))
 have A0 := z2h hs
 obtain ⟨T1, P1, A1⟩ := z09 (a := p0.at_) hS A0 (by omega) (by simp)
 have l1 : atL [p0, p1, p2] p0.at_ = [p0] := by simp [atL, n01, n02, n12, Ne.symm (show p0.at_ ≠ p1.at_ from n01), Ne.symm (show p0.at_ ≠ p2.at_ from n02), Ne.symm (show p1.at_ ≠ p2.at_ from n12)]
 rw [l1] at T1 P1
 obtain ⟨T2, P2, A2⟩ := z09 (a := p1.at_) hS A1 (by omega) (by simp)
 have l2 : atL [p0, p1, p2] p1.at_ = [p1] := by simp [atL, n01, n02, n12, Ne.symm (show p0.at_ ≠ p1.at_ from n01), Ne.symm (show p0.at_ ≠ p2.at_ from n02), Ne.symm (show p1.at_ ≠ p2.at_ from n12)]
 rw [l2] at T2 P2
 obtain ⟨T3, P3, A3⟩ := z09 (a := p2.at_) hS A2 (by omega) (by simp)
 have l3 : atL [p0, p1, p2] p2.at_ = [p2] := by simp [atL, n01, n02, n12, Ne.symm (show p0.at_ ≠ p1.at_ from n01), Ne.symm (show p0.at_ ≠ p2.at_ from n02), Ne.symm (show p1.at_ ≠ p2.at_ from n12)]
 rw [l3] at T3 P3
 have hv : z0p ⟨bs, dr, tk, up, sm, [p0, p1, p2]⟩ sets = z0s [p0, p1, p2] sets (z0s [p0, p1, p2] sets (z0s [p0, p1, p2] sets ([⟨sm, sm⟩]) p0.at_) p1.at_) p2.at_ := by simp [z0p, z1r, z1o, n01, n02, n12, Ne.symm (show p0.at_ ≠ p1.at_ from n01), Ne.symm (show p0.at_ ≠ p2.at_ from n02), Ne.symm (show p1.at_ ≠ p2.at_ from n12)]
 rw [hv]
 generalize ho1 : z0s [p0, p1, p2] sets ([⟨sm, sm⟩]) p0.at_ = o1 at *
 generalize ht1 : togL [p0] (nth sets p0.at_.toNat) = t1 at *
 generalize ho2 : z0s [p0, p1, p2] sets (o1) p1.at_ = o2 at *
 generalize ht2 : togL [p1] (nth sets p1.at_.toNat) = t2 at *
 generalize ho3 : z0s [p0, p1, p2] sets (o2) p2.at_ = o3 at *
 generalize ht3 : togL [p2] (nth sets p2.at_.toNat) = t3 at *
 have hF := z0y o3 (by have := A3.2; omega)
 have hL := z1g o3 (by have := A3.2; omega)
 clear hS hv ho1 ht1 l1 ho2 ht2 l2 ho3 ht3 l3
 refine z0t z0o ?_
 unfold z0m
 (repeat' (first | (simp (disch := omega) only [push_cast, ↓zz, seval]) | (with_reducible first | refine And.intro ?_ ?_ | (first | refine z01 ?_ ?_ | refine z00 ?_ ?_) <;> intro hc <;> (try simp only [push_cast] at hc)) | omega | with_reducible intro _))
 refine z0q 6 ?_
 (repeat' (first | (simp (disch := omega) only [push_cast, ↓zz, seval, xx, List.mem_cons, List.not_mem_nil, or_false, false_or, not_or, not_false_eq_true, true_or, or_true, z1u, setM, n01, n02, n12]) | (with_reducible first | refine And.intro ?_ ?_ | (first | refine z01 ?_ ?_ | refine z00 ?_ ?_) <;> intro hc <;> (try simp only [push_cast] at hc)) | ((with_reducible refine z0a ?_)) | ((with_reducible refine z2g [1] ?_)) | omega | with_reducible intro _))
 refine z0x 6 (fun env => [z0r 1 (env 6)]) [(1, z0b sets), (6, .map 0 1), (10, z03 [⟨sm, sm⟩]), (53, .lst 1 [.int .i64 p0.at_, .int .i64 p1.at_, .int .i64 p2.at_]), (54, .int .i64 3), (55, .int .i64 0)] [⟨0, 1, true, [.int .i64 p0.at_, z0u [p0], .int .i64 p1.at_, z0u [p1], .int .i64 p2.at_, z0u [p2]]⟩] ?_ ?_
 · (repeat' (first | (simp (disch := omega) only [push_cast, ↓zz, seval, n01, n02, n12]) | (with_reducible first | refine And.intro ?_ ?_ | (first | refine z01 ?_ ?_ | refine z00 ?_ ?_) <;> intro hc <;> (try simp only [push_cast] at hc)) | omega | with_reducible intro _))
   all_goals (simp only [z1t, n01, n02, n12]; done)
 (repeat' (first | (simp (disch := omega) only [push_cast, ↓zz, seval, z1u, z1s, hg, n01, n02, n12]) | (with_reducible first | refine And.intro ?_ ?_ | (first | refine z01 ?_ ?_ | refine z00 ?_ ?_) <;> intro hc <;> (try simp only [push_cast] at hc)) | ((with_reducible refine z0a ?_)) | ((with_reducible first | refine eQ T1 ?_ | refine eQ P1 ?_)) | ((with_reducible first | refine eQ T2 ?_ | refine eQ P2 ?_)) | ((with_reducible first | refine eQ T3 ?_ | refine eQ P3 ?_)) | ((with_reducible first | refine eK hF ?_ | refine eK hL ?_)) | omega | with_reducible intro _))
 all_goals ((try simp only [*, decide_true, decide_false, Bool.true_and, Bool.false_and]); (repeat' (first | (simp (disch := omega) only [push_cast, ↓zz, seval, z1f]) | omega | (with_reducible refine And.intro ?_ ?_))))
theorem y11 (bs dr tk up sm : Int) (p0 p1 p2 : Part) (sets : List (List Span)) (hs : z1n sm = true) (hS : z2c [p0, p1, p2] sets) :
   PC Try.prog 101 [z1m ⟨bs, dr, tk, up, sm, [p0, p1, p2]⟩, z0b sets] (.tup [z03 (z0p ⟨bs, dr, tk, up, sm, [p0, p1, p2]⟩ sets), .bool (z1s (z0p ⟨bs, dr, tk, up, sm, [p0, p1, p2]⟩ sets))]) := by
 rcases Classical.em (p1.at_ = p0.at_) with e1 | x01
 · skip
   rcases Classical.em (p2.at_ = p0.at_) with e2 | x02
   · skip
     exact zrz bs dr tk up sm p0 p1 p2 sets hs hS e1 e2
   have n02 : ¬ p0.at_ = p2.at_ := fun h => x02 h.symm
   exact zs0 bs dr tk up sm p0 p1 p2 sets hs hS e1 n02
 have n01 : ¬ p0.at_ = p1.at_ := fun h => x01 h.symm
 rcases Classical.em (p2.at_ = p0.at_) with e2 | x02
 · skip
   exact zs1 bs dr tk up sm p0 p1 p2 sets hs hS e2 n01
 have n02 : ¬ p0.at_ = p2.at_ := fun h => x02 h.symm
 rcases Classical.em (p2.at_ = p1.at_) with e2 | x12
 · skip
   exact zs2 bs dr tk up sm p0 p1 p2 sets hs hS e2 n01
 have n12 : ¬ p1.at_ = p2.at_ := fun h => x12 h.symm
 exact zs3 bs dr tk up sm p0 p1 p2 sets hs hS n01 n02 n12
theorem zs4 (bs dr tk up sm : Int) (p0 p1 p2 p3 : Part) (sets : List (List Span)) (hs : z1n sm = true) (hS : z2c [p0, p1, p2, p3] sets) (e1 : p1.at_ = p0.at_) (e2 : p2.at_ = p0.at_) (e3 : p3.at_ = p0.at_) :
   PC Try.prog 101 [z1m ⟨bs, dr, tk, up, sm, [p0, p1, p2, p3]⟩, z0b sets] (.tup [z03 (z0p ⟨bs, dr, tk, up, sm, [p0, p1, p2, p3]⟩ sets), .bool (z1s (z0p ⟨bs, dr, tk, up, sm, [p0, p1, p2, p3]⟩ sets))]) := by
 have hg := z06 sets
 have b0 := z08 (hS.parts p0 (by simp))
 have b1 := z08 (hS.parts p1 (by simp))
 have b2 := z08 (hS.parts p2 (by simp))
 have b3 := z08 (hS.parts p3 (by simp))
 have A0 := z2h hs
 obtain ⟨T1, P1, A1⟩ := z09 (a := p0.at_) hS A0 (by omega) (by simp)
 have l1 : atL [p0, p1, p2, p3] p0.at_ = [p0, p1, p2, p3] := by simp [atL, e1, e2, e3]
 rw [l1] at T1 P1
 have hv : z0p ⟨bs, dr, tk, up, sm, [p0, p1, p2, p3]⟩ sets = z0s [p0, p1, p2, p3] sets ([⟨sm, sm⟩]) p0.at_ := by simp [z0p, z1r, z1o, e1, e2, e3]
 rw [hv]
 generalize ho1 : z0s [p0, p1, p2, p3] sets ([⟨sm, sm⟩]) p0.at_ = o1 at *
 generalize ht1 : togL [p0, p1, p2, p3] (nth sets p0.at_.toNat) = t1 at *
 have hF := z0y o1 (by have := A1.2; omega)
 have hL := z1g o1 (by have := A1.2; omega)
 clear hS hv ho1 ht1 l1
 refine z0t z0o ?_
 unfold z0m
 (repeat' (first | (simp (disch := omega) only [push_cast, ↓zz, seval]) | (with_reducible first | refine And.intro ?_ ?_ | (first | refine z01 ?_ ?_ | refine z00 ?_ ?_) <;> intro hc <;> (try simp only [push_cast] at hc)) | omega | with_reducible intro _))
 refine z0q 6 ?_
 (repeat' (first | (simp (disch := omega) only [push_cast, ↓zz, seval, xx, List.mem_cons, List.not_mem_nil, or_false, false_or, not_or, not_false_eq_true, true_or, or_true, z1u, setM, e1, e2, e3]) | (with_reducible first | refine And.intro ?_ ?_ | (first | refine z01 ?_ ?_ | refine z00 ?_ ?_) <;> intro hc <;> (try simp only [push_cast] at hc)) | ((with_reducible refine z0a ?_)) | ((with_reducible refine z2g [1, 5] ?_)) | omega | with_reducible intro _))
 refine z0x 6 (fun env => [z0r 1 (env 6)]) [(1, z0b sets), (6, .map 0 1), (10, z03 [⟨sm, sm⟩]), (53, .lst 1 [.int .i64 p0.at_]), (54, .int .i64 1), (55, .int .i64 0)] [⟨0, 1, true, [.int .i64 p0.at_, z0u [p0, p1, p2, p3]]⟩] ?_ ?_
 · (repeat' (first | (simp (disch := omega) only [push_cast, ↓zz, seval, e1, e2, e3]) | (with_reducible first | refine And.intro ?_ ?_ | (first | refine z01 ?_ ?_ | refine z00 ?_ ?_) <;> intro hc <;> (try simp only [push_cast] at hc)) | omega | with_reducible intro _))
   all_goals (simp only [z1t, e1, e2, e3]; done)
 (repeat' (first | (simp (disch := omega) only [push_cast, ↓zz, seval, z1u, z1s, hg, e1, e2, e3]) | (with_reducible first | refine And.intro ?_ ?_ | (first | refine z01 ?_ ?_ | refine z00 ?_ ?_) <;> intro hc <;> (try simp only [push_cast] at hc)) | ((with_reducible refine z0a ?_)) | ((with_reducible first | refine eQ T1 ?_ | refine eQ P1 ?_)) | ((with_reducible first | refine eK hF ?_ | refine eK hL ?_)) | omega | with_reducible intro _))
 all_goals ((try simp only [*, decide_true, decide_false, Bool.true_and, Bool.false_and]); (repeat' (first | (simp (disch := omega) only [push_cast, ↓zz, seval, z1f]) | omega | (with_reducible refine And.intro ?_ ?_))))
theorem zs5 (bs dr tk up sm : Int) (p0 p1 p2 p3 : Part) (sets : List (List Span)) (hs : z1n sm = true) (hS : z2c [p0, p1, p2, p3] sets) (e1 : p1.at_ = p0.at_) (e2 : p2.at_ = p0.at_) (n03 : ¬ p0.at_ = p3.at_) :
   PC Try.prog 101 [z1m ⟨bs, dr, tk, up, sm, [p0, p1, p2, p3]⟩, z0b sets] (.tup [z03 (z0p ⟨bs, dr, tk, up, sm, [p0, p1, p2, p3]⟩ sets), .bool (z1s (z0p ⟨bs, dr, tk, up, sm, [p0, p1, p2, p3]⟩ sets))]) := by
 have hg := z06 sets
 have b0 := z08 (hS.parts p0 (by simp))
 have b1 := z08 (hS.parts p1 (by simp))
 have b2 := z08 (hS.parts p2 (by simp))
 have b3 := z08 (hS.parts p3 (by simp))
 have A0 := z2h hs
 obtain ⟨T1, P1, A1⟩ := z09 (a := p0.at_) hS A0 (by omega) (by simp)
 have l1 : atL [p0, p1, p2, p3] p0.at_ = [p0, p1, p2] := by simp [atL, e1, e2, n03, Ne.symm (show p0.at_ ≠ p3.at_ from n03)]
 rw [l1] at T1 P1
 obtain ⟨T2, P2, A2⟩ := z09 (a := p3.at_) hS A1 (by omega) (by simp)
 have l2 : atL [p0, p1, p2, p3] p3.at_ = [p3] := by simp [atL, e1, e2, n03, Ne.symm (show p0.at_ ≠ p3.at_ from n03)]
 rw [l2] at T2 P2
 have hv : z0p ⟨bs, dr, tk, up, sm, [p0, p1, p2, p3]⟩ sets = z0s [p0, p1, p2, p3] sets (z0s [p0, p1, p2, p3] sets ([⟨sm, sm⟩]) p0.at_) p3.at_ := by simp [z0p, z1r, z1o, e1, e2, n03, Ne.symm (show p0.at_ ≠ p3.at_ from n03)]
 rw [hv]
 generalize ho1 : z0s [p0, p1, p2, p3] sets ([⟨sm, sm⟩]) p0.at_ = o1 at *
 generalize ht1 : togL [p0, p1, p2] (nth sets p0.at_.toNat) = t1 at *
 generalize ho2 : z0s [p0, p1, p2, p3] sets (o1) p3.at_ = o2 at *
 generalize ht2 : togL [p3] (nth sets p3.at_.toNat) = t2 at *
 have hF := z0y o2 (by have := A2.2; omega)
 have hL := z1g o2 (by have := A2.2; omega)
 clear hS hv ho1 ht1 l1 ho2 ht2 l2
 refine z0t z0o ?_
 unfold z0m
 (repeat' (first | (simp (disch := omega) only [push_cast, ↓zz, seval]) | (with_reducible first | refine And.intro ?_ ?_ | (first | refine z01 ?_ ?_ | refine z00 ?_ ?_) <;> intro hc <;> (try simp only [push_cast] at hc)) | omega | with_reducible intro _))
 refine z0q 6 ?_
 (repeat' (first | (simp (disch := omega) only [push_cast, ↓zz, seval, xx, List.mem_cons, List.not_mem_nil, or_false, false_or, not_or, not_false_eq_true, true_or, or_true, z1u, setM, e1, e2, n03]) | (with_reducible first | refine And.intro ?_ ?_ | (first | refine z01 ?_ ?_ | refine z00 ?_ ?_) <;> intro hc <;> (try simp only [push_cast] at hc)) | ((with_reducible refine z0a ?_)) | ((with_reducible refine z2g [1, 5] ?_)) | omega | with_reducible intro _))
 refine z0x 6 (fun env => [z0r 1 (env 6)]) [(1, z0b sets), (6, .map 0 1), (10, z03 [⟨sm, sm⟩]), (53, .lst 1 [.int .i64 p0.at_, .int .i64 p3.at_]), (54, .int .i64 2), (55, .int .i64 0)] [⟨0, 1, true, [.int .i64 p0.at_, z0u [p0, p1, p2], .int .i64 p3.at_, z0u [p3]]⟩] ?_ ?_
 · (repeat' (first | (simp (disch := omega) only [push_cast, ↓zz, seval, e1, e2, n03]) | (with_reducible first | refine And.intro ?_ ?_ | (first | refine z01 ?_ ?_ | refine z00 ?_ ?_) <;> intro hc <;> (try simp only [push_cast] at hc)) | omega | with_reducible intro _))
   all_goals (simp only [z1t, e1, e2, n03]; done)
 (repeat' (first | (simp (disch := omega) only [push_cast, ↓zz, seval, z1u, z1s, hg, e1, e2, n03]) | (with_reducible first | refine And.intro ?_ ?_ | (first | refine z01 ?_ ?_ | refine z00 ?_ ?_) <;> intro hc <;> (try simp only [push_cast] at hc)) | ((with_reducible refine z0a ?_)) | ((with_reducible first | refine eQ T1 ?_ | refine eQ P1 ?_)) | ((with_reducible first | refine eQ T2 ?_ | refine eQ P2 ?_)) | ((with_reducible first | refine eK hF ?_ | refine eK hL ?_)) | omega | with_reducible intro _))
 all_goals ((try simp only [*, decide_true, decide_false, Bool.true_and, Bool.false_and]); (repeat' (first | (simp (disch := omega) only [push_cast, ↓zz, seval, z1f]) | omega | (with_reducible refine And.intro ?_ ?_))))
theorem zs6 (bs dr tk up sm : Int) (p0 p1 p2 p3 : Part) (sets : List (List Span)) (hs : z1n sm = true) (hS : z2c [p0, p1, p2, p3] sets) (e1 : p1.at_ = p0.at_) (e3 : p3.at_ = p0.at_) (n02 : ¬ p0.at_ = p2.at_) :
   PC Try.prog 101 [z1m ⟨bs, dr, tk, up, sm, [p0, p1, p2, p3]⟩, z0b sets] (.tup [z03 (z0p ⟨bs, dr, tk, up, sm, [p0, p1, p2, p3]⟩ sets), .bool (z1s (z0p ⟨bs, dr, tk, up, sm, [p0, p1, p2, p3]⟩ sets))]) := by
 have hg := z06 sets
 have b0 := z08 (hS.parts p0 (by simp))
 have b1 := z08 (hS.parts p1 (by simp))
 have b2 := z08 (hS.parts p2 (by simp))
 have b3 := z08 (hS.parts p3 (by simp))
 have A0 := z2h hs
 obtain ⟨T1, P1, A1⟩ := z09 (a := p0.at_) hS A0 (by omega) (by simp)
 have l1 : atL [p0, p1, p2, p3] p0.at_ = [p0, p1, p3] := by simp [atL, e1, e3, n02, Ne.symm (show p0.at_ ≠ p2.at_ from n02)]
 rw [l1] at T1 P1
 obtain ⟨T2, P2, A2⟩ := z09 (a := p2.at_) hS A1 (by omega) (by simp)
 have l2 : atL [p0, p1, p2, p3] p2.at_ = [p2] := by simp [atL, e1, e3, n02, Ne.symm (show p0.at_ ≠ p2.at_ from n02)]
 rw [l2] at T2 P2
 have hv : z0p ⟨bs, dr, tk, up, sm, [p0, p1, p2, p3]⟩ sets = z0s [p0, p1, p2, p3] sets (z0s [p0, p1, p2, p3] sets ([⟨sm, sm⟩]) p0.at_) p2.at_ := by simp [z0p, z1r, z1o, e1, e3, n02, Ne.symm (show p0.at_ ≠ p2.at_ from n02)]
 rw [hv]
 generalize ho1 : z0s [p0, p1, p2, p3] sets ([⟨sm, sm⟩]) p0.at_ = o1 at *
 generalize ht1 : togL [p0, p1, p3] (nth sets p0.at_.toNat) = t1 at *
 generalize ho2 : z0s [p0, p1, p2, p3] sets (o1) p2.at_ = o2 at *
 generalize ht2 : togL [p2] (nth sets p2.at_.toNat) = t2 at *
 have hF := z0y o2 (by have := A2.2; omega)
 have hL := z1g o2 (by have := A2.2; omega)
 clear hS hv ho1 ht1 l1 ho2 ht2 l2
 refine z0t z0o ?_
 unfold z0m
 (repeat' (first | (simp (disch := omega) only [push_cast, ↓zz, seval]) | (with_reducible first | refine And.intro ?_ ?_ | (first | refine z01 ?_ ?_ | refine z00 ?_ ?_) <;> intro hc <;> (try simp only [push_cast] at hc)) | omega | with_reducible intro _))
 refine z0q 6 ?_
 (repeat' (first | (simp (disch := omega) only [push_cast, ↓zz, seval, xx, List.mem_cons, List.not_mem_nil, or_false, false_or, not_or, not_false_eq_true, true_or, or_true, z1u, setM, e1, e3, n02]) | (with_reducible first | refine And.intro ?_ ?_ | (first | refine z01 ?_ ?_ | refine z00 ?_ ?_) <;> intro hc <;> (try simp only [push_cast] at hc)) | ((with_reducible refine z0a ?_)) | ((with_reducible refine z2g [1, 5] ?_)) | omega | with_reducible intro _))
 refine z0x 6 (fun env => [z0r 1 (env 6)]) [(1, z0b sets), (6, .map 0 1), (10, z03 [⟨sm, sm⟩]), (53, .lst 1 [.int .i64 p0.at_, .int .i64 p2.at_]), (54, .int .i64 2), (55, .int .i64 0)] [⟨0, 1, true, [.int .i64 p0.at_, z0u [p0, p1, p3], .int .i64 p2.at_, z0u [p2]]⟩] ?_ ?_
 · (repeat' (first | (simp (disch := omega) only [push_cast, ↓zz, seval, e1, e3, n02]) | (with_reducible first | refine And.intro ?_ ?_ | (first | refine z01 ?_ ?_ | refine z00 ?_ ?_) <;> intro hc <;> (try simp only [push_cast] at hc)) | omega | with_reducible intro _))
   all_goals (simp only [z1t, e1, e3, n02]; done)
 (repeat' (first | (simp (disch := omega) only [push_cast, ↓zz, seval, z1u, z1s, hg, e1, e3, n02]) | (with_reducible first | refine And.intro ?_ ?_ | (first | refine z01 ?_ ?_ | refine z00 ?_ ?_) <;> intro hc <;> (try simp only [push_cast] at hc)) | ((with_reducible refine z0a ?_)) | ((with_reducible first | refine eQ T1 ?_ | refine eQ P1 ?_)) | ((with_reducible first | refine eQ T2 ?_ | refine eQ P2 ?_)) | ((with_reducible first | refine eK hF ?_ | refine eK hL ?_)) | omega | with_reducible intro _))
 all_goals ((try simp only [*, decide_true, decide_false, Bool.true_and, Bool.false_and]); (repeat' (first | (simp (disch := omega) only [push_cast, ↓zz, seval, z1f]) | omega | (with_reducible refine And.intro ?_ ?_))))
theorem zs7 (bs dr tk up sm : Int) (p0 p1 p2 p3 : Part) (sets : List (List Span)) (hs : z1n sm = true) (hS : z2c [p0, p1, p2, p3] sets) (e1 : p1.at_ = p0.at_) (e3 : p3.at_ = p2.at_) (n02 : ¬ p0.at_ = p2.at_) :
   PC Try.prog 101 [z1m ⟨bs, dr, tk, up, sm, [p0, p1, p2, p3]⟩, z0b sets] (.tup [z03 (z0p ⟨bs, dr, tk, up, sm, [p0, p1, p2, p3]⟩ sets), .bool (z1s (z0p ⟨bs, dr, tk, up, sm, [p0, p1, p2, p3]⟩ sets))]) := by
 have hg := z06 sets
 have b0 := z08 (hS.parts p0 (by simp))
 have b1 := z08 (hS.parts p1 (by simp))
 have b2 := z08 (hS.parts p2 (by simp))
 have b3 := z08 (hS.parts p3 (by simp))
 have A0 := z2h hs
 obtain ⟨T1, P1, A1⟩ := z09 (a := p0.at_) hS A0 (by omega) (by simp)
 have l1 : atL [p0, p1, p2, p3] p0.at_ = [p0, p1] := by simp [atL, e1, e3, n02, Ne.symm (show p0.at_ ≠ p2.at_ from n02)]
 rw [l1] at T1 P1
 obtain ⟨T2, P2, A2⟩ := z09 (a := p2.at_) hS A1 (by omega) (by simp)
 have l2 : atL [p0, p1, p2, p3] p2.at_ = [p2, p3] := by simp [atL, e1, e3, n02, Ne.symm (show p0.at_ ≠ p2.at_ from n02)]
 rw [l2] at T2 P2
 have hv : z0p ⟨bs, dr, tk, up, sm, [p0, p1, p2, p3]⟩ sets = z0s [p0, p1, p2, p3] sets (z0s [p0, p1, p2, p3] sets ([⟨sm, sm⟩]) p0.at_) p2.at_ := by simp [z0p, z1r, z1o, e1, e3, n02, Ne.symm (show p0.at_ ≠ p2.at_ from n02)]
 rw [hv]
 generalize ho1 : z0s [p0, p1, p2, p3] sets ([⟨sm, sm⟩]) p0.at_ = o1 at *
 generalize ht1 : togL [p0, p1] (nth sets p0.at_.toNat) = t1 at *
 generalize ho2 : z0s [p0, p1, p2, p3] sets (o1) p2.at_ = o2 at *
 generalize ht2 : togL [p2, p3] (nth sets p2.at_.toNat) = t2 at *
 have hF := z0y o2 (by have := A2.2; omega)
 have hL := z1g o2 (by have := A2.2; omega)
 clear hS hv ho1 ht1 l1 ho2 ht2 l2
 refine z0t z0o ?_
 unfold z0m
 (repeat' (first | (simp (disch := omega) only [push_cast, ↓zz, seval]) | (with_reducible first | refine And.intro ?_ ?_ | (first | refine z01 ?_ ?_ | refine z00 ?_ ?_) <;> intro hc <;> (try simp only [push_cast] at hc)) | omega | with_reducible intro _))
 refine z0q 6 ?_
 (repeat' (first | (simp (disch := omega) only [push_cast, ↓zz, seval, xx, List.mem_cons, List.not_mem_nil, or_false, false_or, not_or, not_false_eq_true, true_or, or_true, z1u, setM, e1, e3, n02]) | (with_reducible first | refine And.intro ?_ ?_ | (first | refine z01 ?_ ?_ | refine z00 ?_ ?_) <;> intro hc <;> (try simp only [push_cast] at hc)) | ((with_reducible refine z0a ?_)) | ((with_reducible refine z2g [1, 5, 9] ?_)) | omega | with_reducible intro _))
 refine z0x 6 (fun env => [z0r 1 (env 6)]) [(1, z0b sets), (6, .map 0 1), (10, z03 [⟨sm, sm⟩]), (53, .lst 1 [.int .i64 p0.at_, .int .i64 p2.at_]), (54, .int .i64 2), (55, .int .i64 0)] [⟨0, 1, true, [.int .i64 p0.at_, z0u [p0, p1], .int .i64 p2.at_, z0u [p2, p3]]⟩] ?_ ?_
 · (repeat' (first | (simp (disch := omega) only [push_cast, ↓zz, seval, e1, e3, n02]) | (with_reducible first | refine And.intro ?_ ?_ | (first | refine z01 ?_ ?_ | refine z00 ?_ ?_) <;> intro hc <;> (try simp only [push_cast] at hc)) | omega | with_reducible intro _))
   all_goals (simp only [z1t, e1, e3, n02]; done)
 (repeat' (first | (simp (disch := omega) only [push_cast, ↓zz, seval, z1u, z1s, hg, e1, e3, n02]) | (with_reducible first | refine And.intro ?_ ?_ | (first | refine z01 ?_ ?_ | refine z00 ?_ ?_) <;> intro hc <;> (try simp only [push_cast] at hc)) | ((with_reducible refine z0a ?_)) | ((with_reducible first | refine eQ T1 ?_ | refine eQ P1 ?_)) | ((with_reducible first | refine eQ T2 ?_ | refine eQ P2 ?_)) | ((with_reducible first | refine eK hF ?_ | refine eK hL ?_)) | omega | with_reducible intro _))
 all_goals ((try simp only [*, decide_true, decide_false, Bool.true_and, Bool.false_and]); (repeat' (first | (simp (disch := omega) only [push_cast, ↓zz, seval, z1f]) | omega | (with_reducible refine And.intro ?_ ?_))))
theorem zs8 (bs dr tk up sm : Int) (p0 p1 p2 p3 : Part) (sets : List (List Span)) (hs : z1n sm = true) (hS : z2c [p0, p1, p2, p3] sets) (e1 : p1.at_ = p0.at_) (n02 : ¬ p0.at_ = p2.at_) (n03 : ¬ p0.at_ = p3.at_) (n23 : ¬ p2.at_ = p3.at_) :
   PC Try.prog 101 [z1m ⟨bs, dr, tk, up, sm, [p0, p1, p2, p3]⟩, z0b sets] (.tup [z03 (z0p ⟨bs, dr, tk, up, sm, [p0, p1, p2, p3]⟩ sets), .bool (z1s (z0p ⟨bs, dr, tk, up, sm, [p0, p1, p2, p3]⟩ sets))]) := by
 have hg := z06 sets
 have b0 := z08 (hS.parts p0 (by simp))
 have b1 := z08 (hS.parts p1 (by simp))
 have b2 := z08 (hS.parts p2 (by simp))
 have b3 := z08 (hS.parts p3 (by simp))
 have A0 := z2h hs
 obtain ⟨T1, P1, A1⟩ := z09 (a := p0.at_) hS A0 (by omega) (by simp)
 have l1 : atL [p0, p1, p2, p3] p0.at_ = [p0, p1] := by simp [atL, e1, n02, n03, n23, Ne.symm (show p0.at_ ≠ p2.at_ from n02), Ne.symm (show p0.at_ ≠ p3.at_ from n03), Ne.symm (show p2.at_ ≠ p3.at_ from n23)]
 rw [l1] at T1 P1
 obtain ⟨T2, P2, A2⟩ := z09 (a := p2.at_) hS A1 (by omega) (by simp)
 have l2 : atL [p0, p1, p2, p3] p2.at_ = [p2] := by simp [atL, e1, n02, n03, n23, Ne.symm (show p0.at_ ≠ p2.at_ from n02), Ne.symm (show p0.at_ ≠ p3.at_ from n03), Ne.symm (show p2.at_ ≠ p3.at_ from n23)]
 rw [l2] at T2 P2
 obtain ⟨T3, P3, A3⟩ := z09 (a := p3.at_) hS A2 (by omega) (by simp)
 have l3 : atL [p0, p1, p2, p3] p3.at_ = [p3] := by simp [atL, e1, n02, n03, n23, Ne.symm (show p0.at_ ≠ p2.at_ from n02), Ne.symm (show p0.at_ ≠ p3.at_ from n03), Ne.symm (show p2.at_ ≠ p3.at_ from n23)]
 rw [l3] at T3 P3
 have hv : z0p ⟨bs, dr, tk, up, sm, [p0, p1, p2, p3]⟩ sets = z0s [p0, p1, p2, p3] sets (z0s [p0, p1, p2, p3] sets (z0s [p0, p1, p2, p3] sets ([⟨sm, sm⟩]) p0.at_) p2.at_) p3.at_ := by simp [z0p, z1r, z1o, e1, n02, n03, n23, Ne.symm (show p0.at_ ≠ p2.at_ from n02), Ne.symm (show p0.at_ ≠ p3.at_ from n03), Ne.symm (show p2.at_ ≠ p3.at_ from n23)]
 rw [hv]
 generalize ho1 : z0s [p0, p1, p2, p3] sets ([⟨sm, sm⟩]) p0.at_ = o1 at *
 generalize ht1 : togL [p0, p1] (nth sets p0.at_.toNat) = t1 at *
 generalize ho2 : z0s [p0, p1, p2, p3] sets (o1) p2.at_ = o2 at *
 generalize ht2 : togL [p2] (nth sets p2.at_.toNat) = t2 at *
 generalize ho3 : z0s [p0, p1, p2, p3] sets (o2) p3.at_ = o3 at *
 generalize ht3 : togL [p3] (nth sets p3.at_.toNat) = t3 at *
 have hF := z0y o3 (by have := A3.2; omega)
 have hL := z1g o3 (by have := A3.2; omega)
 clear hS hv ho1 ht1 l1 ho2 ht2 l2 ho3 ht3 l3
 refine z0t z0o ?_
 unfold z0m
 (repeat' (first | (simp (disch := omega) only [push_cast, ↓zz, seval]) | (with_reducible first | refine And.intro ?_ ?_ | (first | refine z01 ?_ ?_ | refine z00 ?_ ?_) <;> intro hc <;> (try simp only [push_cast] at hc)) | omega | with_reducible intro _))
 refine z0q 6 ?_
 (repeat' (first | (simp (disch := omega) only [push_cast, ↓zz, seval, xx, List.mem_cons, List.not_mem_nil, or_false, false_or, not_or, not_false_eq_true, true_or, or_true, z1u, setM, e1, n02, n03, n23]) | (with_reducible first | refine And.intro ?_ ?_ | (first | refine z01 ?_ ?_ | refine z00 ?_ ?_) <;> intro hc <;> (try simp only [push_cast] at hc)) | ((with_reducible refine z0a ?_)) | ((with_reducible refine z2g [1, 5] ?_)) | omega | with_reducible intro _))
 refine z0x 6 (fun env => [z0r 1 (env 6)]) [(1, z0b sets), (6, .map 0 1), (10, z03 [⟨sm, sm⟩]), (53, .lst 1 [.int .i64 p0.at_, .int .i64 p2.at_, .int .i64 p3.at_]), (54, .int .i64 3), (55, .int .i64 0)] [⟨0, 1, true, [.int .i64 p0.at_, z0u [p0, p1], .int .i64 p2.at_, z0u [p2], .int .i64 p3.at_, z0u [p3]]⟩] ?_ ?_
 · (repeat' (first | (simp (disch := omega) only [push_cast, ↓zz, seval, e1, n02, n03, n23]) | (with_reducible first | refine And.intro ?_ ?_ | (first | refine z01 ?_ ?_ | refine z00 ?_ ?_) <;> intro hc <;> (try simp only [push_cast] at hc)) | omega | with_reducible intro _))
   all_goals (simp only [z1t, e1, n02, n03, n23]; done)
 (repeat' (first | (simp (disch := omega) only [push_cast, ↓zz, seval, z1u, z1s, hg, e1, n02, n03, n23]) | (with_reducible first | refine And.intro ?_ ?_ | (first | refine z01 ?_ ?_ | refine z00 ?_ ?_) <;> intro hc <;> (try simp only [push_cast] at hc)) | ((with_reducible refine z0a ?_)) | ((with_reducible first | refine eQ T1 ?_ | refine eQ P1 ?_)) | ((with_reducible first | refine eQ T2 ?_ | refine eQ P2 ?_)) | ((with_reducible first | refine eQ T3 ?_ | refine eQ P3 ?_)) | ((with_reducible first | refine eK hF ?_ | refine eK hL ?_)) | omega | with_reducible intro _))
 all_goals ((try simp only [*, decide_true, decide_false, Bool.true_and, Bool.false_and]); (repeat' (first | (simp (disch := omega) only [push_cast, ↓zz, seval, z1f]) | omega | (with_reducible refine And.intro ?_ ?_))))
theorem zs9 (bs dr tk up sm : Int) (p0 p1 p2 p3 : Part) (sets : List (List Span)) (hs : z1n sm = true) (hS : z2c [p0, p1, p2, p3] sets) (e2 : p2.at_ = p0.at_) (e3 : p3.at_ = p0.at_) (n01 : ¬ p0.at_ = p1.at_) :
   PC Try.prog 101 [z1m ⟨bs, dr, tk, up, sm, [p0, p1, p2, p3]⟩, z0b sets] (.tup [z03 (z0p ⟨bs, dr, tk, up, sm, [p0, p1, p2, p3]⟩ sets), .bool (z1s (z0p ⟨bs, dr, tk, up, sm, [p0, p1, p2, p3]⟩ sets))]) := by
 have hg := z06 sets
 have b0 := z08 (hS.parts p0 (by simp))
 have b1 := z08 (hS.parts p1 (by simp))
 have b2 := z08 (hS.parts p2 (by simp))
 have b3 := z08 (hS.parts p3 (by simp))
 have A0 := z2h hs
 obtain ⟨T1, P1, A1⟩ := z09 (a := p0.at_) hS A0 (by omega) (by simp)
 have l1 : atL [p0, p1, p2, p3] p0.at_ = [p0, p2, p3] := by simp [atL, e2, e3, n01, Ne.symm (show p0.at_ ≠ p1.at_ from n01)]
 rw [l1] at T1 P1
 obtain ⟨T2, P2, A2⟩ := z09 (a := p1.at_) hS A1 (by omega) (by simp)
 have l2 : atL [p0, p1, p2, p3] p1.at_ = [p1] := by simp [atL, e2, e3, n01, Ne.symm (show p0.at_ ≠ p1.at_ from n01)]
 rw [l2] at T2 P2
 have hv : z0p ⟨bs, dr, tk, up, sm, [p0, p1, p2, p3]⟩ sets = z0s [p0, p1, p2, p3] sets (z0s [p0, p1, p2, p3] sets ([⟨sm, sm⟩]) p0.at_) p1.at_ := by simp [z0p, z1r, z1o, e2, e3, n01, Ne.symm (show p0.at_ ≠ p1.at_ from n01)]
 rw [hv]
 generalize ho1 : z0s [p0, p1, p2, p3] sets ([⟨sm, sm⟩]) p0.at_ = o1 at *
 generalize ht1 : togL [p0, p2, p3] (nth sets p0.at_.toNat) = t1 at *
 generalize ho2 : z0s [p0, p1, p2, p3] sets (o1) p1.at_ = o2 at *
 generalize ht2 : togL [p1] (nth sets p1.at_.toNat) = t2 at *
 have hF := z0y o2 (by have := A2.2; omega)
 have hL := z1g o2 (by have := A2.2; omega)
 clear hS hv ho1 ht1 l1 ho2 ht2 l2
 refine z0t z0o ?_
 unfold z0m
 (repeat' (first | (simp (disch := omega) only [push_cast, ↓zz, seval]) | (with_reducible first | refine And.intro ?_ ?_ | (first | refine z01 ?_ ?_ | refine z00 ?_ ?_) <;> intro hc <;> (try simp only [push_cast] at hc)) | omega | with_reducible intro _))
 refine z0q 6 ?_
 (repeat' (first | (simp (disch := omega) only [push_cast, ↓zz, seval, xx, List.mem_cons, List.not_mem_nil, or_false, false_or, not_or, not_false_eq_true, true_or, or_true, z1u, setM, e2, e3, n01]) | (with_reducible first | refine And.intro ?_ ?_ | (first | refine z01 ?_ ?_ | refine z00 ?_ ?_) <;> intro hc <;> (try simp only [push_cast] at hc)) | ((with_reducible refine z0a ?_)) | ((with_reducible refine z2g [1, 5] ?_)) | omega | with_reducible intro _))
 refine z0x 6 (fun env => [z0r 1 (env 6)]) [(1, z0b sets), (6, .map 0 1), (10, z03 [⟨sm, sm⟩]), (53, .lst 1 [.int .i64 p0.at_, .int .i64 p1.at_]), (54, .int .i64 2), (55, .int .i64 0)] [⟨0, 1, true, [.int .i64 p0.at_, z0u [p0, p2, p3], .int .i64 p1.at_, z0u [p1]]⟩] ?_ ?_
 · (repeat' (first | (simp (disch := omega) only [push_cast, ↓zz, seval, e2, e3, n01]) | (with_reducible first | refine And.intro ?_ ?_ | (first | refine z01 ?_ ?_ | refine z00 ?_ ?_) <;> intro hc <;> (try simp only [push_cast] at hc)) | omega | with_reducible intro _))
   all_goals (simp only [z1t, e2, e3, n01]; done)
 (repeat' (first | (simp (disch := omega) only [push_cast, ↓zz, seval, z1u, z1s, hg, e2, e3, n01]) | (with_reducible first | refine And.intro ?_ ?_ | (first | refine z01 ?_ ?_ | refine z00 ?_ ?_) <;> intro hc <;> (try simp only [push_cast] at hc)) | ((with_reducible refine z0a ?_)) | ((with_reducible first | refine eQ T1 ?_ | refine eQ P1 ?_)) | ((with_reducible first | refine eQ T2 ?_ | refine eQ P2 ?_)) | ((with_reducible first | refine eK hF ?_ | refine eK hL ?_)) | omega | with_reducible intro _))
 all_goals ((try simp only [*, decide_true, decide_false, Bool.true_and, Bool.false_and]); (repeat' (first | (simp (disch := omega) only [push_cast, ↓zz, seval, z1f]) | omega | (with_reducible refine And.intro ?_ ?_))))
theorem zsa (bs dr tk up sm : Int) (p0 p1 p2 p3 : Part) (sets : List (List Span)) (hs : z1n sm = true) (hS : z2c [p0, p1, p2, p3] sets) (e2 : p2.at_ = p0.at_) (e3 : p3.at_ = p1.at_) (n01 : ¬ p0.at_ = p1.at_) :
   PC Try.prog 101 [z1m ⟨bs, dr, tk, up, sm, [p0, p1, p2, p3]⟩, z0b sets] (.tup [z03 (z0p ⟨bs, dr, tk, up, sm, [p0, p1, p2, p3]⟩ sets), .bool (z1s (z0p ⟨bs, dr, tk, up, sm, [p0, p1, p2, p3]⟩ sets))]) := by
 have hg := z06 sets
 have b0 := z08 (hS.parts p0 (by simp))
 have b1 := z08 (hS.parts p1 (by simp))
 have b2 := z08 (hS.parts p2 (by simp))
 have b3 := z08 (hS.parts p3 (by simp))
 have A0 := z2h hs
 obtain ⟨T1, P1, A1⟩ := z09 (a := p0.at_) hS A0 (by omega) (by simp)
 have l1 : atL [p0, p1, p2, p3] p0.at_ = [p0, p2] := by simp [atL, e2, e3, n01, Ne.symm (show p0.at_ ≠ p1.at_ from n01)]
 rw [l1] at T1 P1
 obtain ⟨T2, P2, A2⟩ := z09 (a := p1.at_) hS A1 (by omega) (by simp)
 have l2 : atL [p0, p1, p2, p3] p1.at_ = [p1, p3] := by simp [atL, e2, e3, n01, Ne.symm (show p0.at_ ≠ p1.at_ from n01)]
 rw [l2] at T2 P2
 have hv : z0p ⟨bs, dr, tk, up, sm, [p0, p1, p2, p3]⟩ sets = z0s [p0, p1, p2, p3] sets (z0s [p0, p1, p2, p3] sets ([⟨sm, sm⟩]) p0.at_) p1.at_ := by simp [z0p, z1r, z1o, e2, e3, n01, Ne.symm (show p0.at_ ≠ p1.at_ from n01)]
 rw [hv]
 generalize ho1 : z0s [p0, p1, p2, p3] sets ([⟨sm, sm⟩]) p0.at_ = o1 at *
 generalize ht1 : togL [p0, p2] (nth sets p0.at_.toNat) = t1 at *
 generalize ho2 : z0s [p0, p1, p2, p3] sets (o1) p1.at_ = o2 at *
 generalize ht2 : togL [p1, p3] (nth sets p1.at_.toNat) = t2 at *
 have hF := z0y o2 (by have := A2.2; omega)
 have hL := z1g o2 (by have := A2.2; omega)
 clear hS hv ho1 ht1 l1 ho2 ht2 l2
 refine z0t z0o ?_
 unfold z0m
 (repeat' (first | (simp (disch := omega) only [push_cast, ↓zz, seval]) | (with_reducible first | refine And.intro ?_ ?_ | (first | refine z01 ?_ ?_ | refine z00 ?_ ?_) <;> intro hc <;> (try simp only [push_cast] at hc)) | omega | with_reducible intro _))
 refine z0q 6 ?_
 (repeat' (first | (simp (disch := omega) only [push_cast, ↓zz, seval, xx, List.mem_cons, List.not_mem_nil, or_false, false_or, not_or, not_false_eq_true, true_or, or_true, z1u, setM, e2, e3, n01]) | (with_reducible first | refine And.intro ?_ ?_ | (first | refine z01 ?_ ?_ | refine z00 ?_ ?_) <;> intro hc <;> (try simp only [push_cast] at hc)) | ((with_reducible refine z0a ?_)) | ((with_reducible refine z2g [1, 5, 8] ?_)) | omega | with_reducible intro _))
 refine z0x 6 (fun env => [z0r 1 (env 6)]) [(1, z0b sets), (6, .map 0 1), (10, z03 [⟨sm, sm⟩]), (53, .lst 1 [.int .i64 p0.at_, .int .i64 p1.at_]), (54, .int .i64 2), (55, .int .i64 0)] [⟨0, 1, true, [.int .i64 p0.at_, z0u [p0, p2], .int .i64 p1.at_, z0u [p1, p3]]⟩] ?_ ?_
 · (repeat' (first | (simp (disch := omega) only [push_cast, ↓zz, seval, e2, e3, n01]) | (with_reducible first | refine And.intro ?_ ?_ | (first | refine z01 ?_ ?_ | refine z00 ?_ ?_) <;> intro hc <;> (try simp only [push_cast] at hc)) | omega | with_reducible intro _))
   all_goals (simp only [z1t, e2, e3, n01]; done)
 (repeat' (first | (simp (disch := omega) only [push_cast, ↓zz, seval, z1u, z1s, hg, e2, e3, n01]) | (with_reducible first | refine And.intro ?_ ?_ | (first | refine z01 ?_ ?_ | refine z00 ?_ ?_) <;> intro hc <;> (try simp only [push_cast] at hc)) | ((with_reducible refine z0a ?_)) | ((with_reducible first | refine eQ T1 ?_ | refine eQ P1 ?_)) | ((with_reducible first | refine eQ T2 ?_ | refine eQ P2 ?_)) | ((with_reducible first | refine eK hF ?_ | refine eK hL ?_)) | omega | with_reducible intro _))
 all_goals ((try simp only [*, decide_true, decide_false, Bool.true_and, Bool.false_and]); (repeat' (first | (simp (disch := omega) only [push_cast, ↓zz, seval, z1f]) | omega | (with_reducible refine And.intro ?_ ?_))))
theorem zsb (bs dr tk up sm : Int) (p0 p1 p2 p3 : Part) (sets : List (List Span)) (hs : z1n sm = true) (hS : z2c [p0, p1, p2, p3] sets) (e2 : p2.at_ = p0.at_) (n01 : ¬ p0.at_ = p1.at_) (n03 : ¬ p0.at_ = p3.at_) (n13 : ¬ p1.at_ = p3.at_) :
   PC Try.prog 101 [z1m ⟨bs, dr, tk, up, sm, [p0, p1, p2, p3]⟩, z0b sets] (.tup [z03 (z0p ⟨bs, dr, tk, up, sm, [p0, p1, p2, p3]⟩ sets), .bool (z1s (z0p ⟨bs, dr, tk, up, sm, [p0, p1, p2, p3]⟩ sets))]) := by
 have hg := z06 sets
 have b0 := z08 (hS.parts p0 (by simp))
 have b1 := z08 (hS.parts p1 (by simp))
 have b2 := z08 (hS.parts p2 (by simp))
 have b3 := z08 (hS.parts p3 (by simp))
 have A0 := z2h hs
 obtain ⟨T1, P1, A1⟩ := z09 (a := p0.at_) hS A0 (by omega) (by simp)
 have l1 : atL [p0, p1, p2, p3] p0.at_ = [p0, p2] := by simp [atL, e2, n01, n03, n13, Ne.symm (show p0.at_ ≠ p1.at_ from n01), Ne.symm (show p0.at_ ≠ p3.at_ from n03), Ne.symm (show p1.at_ ≠ p3.at_ from n13)]
 rw [l1] at T1 P1
 obtain ⟨T2, P2, A2⟩ := z09 (a := p1.at_) hS A1 (by omega) (by simp)
 have l2 : atL [p0, p1, p2, p3] p1.at_ = [p1] := by simp [atL, e2, n01, n03, n13, Ne.symm (show p0.at_ ≠ p1.at_ from n01), Ne.symm (show p0.at_ ≠ p3.at_ from n03), Ne.symm (show p1.at_ ≠ p3.at_ from n13)]
 rw [l2] at T2 P2
 obtain ⟨T3, P3, A3⟩ := z09 (a := p3.at_) hS A2 (by omega) (by simp)
 have l3 : atL [p0, p1, p2, p3] p3.at_ = [p3] := by simp [atL, e2, n01, n03, n13, Ne.symm (show p0.at_ ≠ p1.at_ from n01), Ne.symm (show p0.at_ ≠ p3.at_ from n03), Ne.symm (show p1.at_ ≠ p3.at_ from n13)]
 rw [l3] at T3 P3
 have hv : z0p ⟨bs, dr, tk, up, sm, [p0, p1, p2, p3]⟩ sets = z0s [p0, p1, p2, p3] sets (z0s [p0, p1, p2, p3] sets (z0s [p0, p1, p2, p3] sets ([⟨sm, sm⟩]) p0.at_) p1.at_) p3.at_ := by simp [z0p, z1r, z1o, e2, n01, n03, n13, Ne.symm (show p0.at_ ≠ p1.at_ from n01), Ne.symm (show p0.at_ ≠ p3.at_ from n03), Ne.symm (show p1.at_ ≠ p3.at_ from n13)]
 rw [hv]
 generalize ho1 : z0s [p0, p1, p2, p3] sets ([⟨sm, sm⟩]) p0.at_ = o1 at *
 generalize ht1 : togL [p0, p2] (nth sets p0.at_.toNat) = t1 at *
 generalize ho2 : z0s [p0, p1, p2, p3] sets (o1) p1.at_ = o2 at *
 generalize ht2 : togL [p1] (nth sets p1.at_.toNat) = t2 at *
 generalize ho3 : z0s [p0, p1, p2, p3] sets (o2) p3.at_ = o3 at *
 generalize ht3 : togL [p3] (nth sets p3.at_.toNat) = t3 at *
 have hF := z0y o3 (by have := A3.2; omega)
 have hL := z1g o3 (by have := A3.2; omega)
 clear hS hv ho1 ht1 l1 ho2 ht2 l2 ho3 ht3 l3
 refine z0t z0o ?_
 unfold z0m
 (repeat' (first | (simp (disch := omega) only [push_cast, ↓zz, seval]) | (with_reducible first | refine And.intro ?_ ?_ | (first | refine z01 ?_ ?_ | refine z00 ?_ ?_) <;> intro hc <;> (try simp only [push_cast] at hc)) | omega | with_reducible intro _))
 refine z0q 6 ?_
 (repeat' (first | (simp (disch := omega) only [push_cast, ↓zz, seval, xx, List.mem_cons, List.not_mem_nil, or_false, false_or, not_or, not_false_eq_true, true_or, or_true, z1u, setM, e2, n01, n03, n13]) | (with_reducible first | refine And.intro ?_ ?_ | (first | refine z01 ?_ ?_ | refine z00 ?_ ?_) <;> intro hc <;> (try simp only [push_cast] at hc)) | ((with_reducible refine z0a ?_)) | ((with_reducible refine z2g [1, 5] ?_)) | omega | with_reducible intro _))
 refine z0x 6 (fun env => [z0r 1 (env 6)]) [(1, z0b sets), (6, .map 0 1), (10, z03 [⟨sm, sm⟩]), (53, .lst 1 [.int .i64 p0.at_, .int .i64 p1.at_, .int .i64 p3.at_]), (54, .int .i64 3), (55, .int .i64 0)] [⟨0, 1, true, [.int .i64 p0.at_, z0u [p0, p2], .int .i64 p1.at_, z0u [p1], .int .i64 p3.at_, z0u [p3]]⟩] ?_ ?_
 · (repeat' (first | (simp (disch := omega) only [push_cast, ↓zz, seval, e2, n01, n03, n13]) | (with_reducible first | refine And.intro ?_ ?_ | (first | refine z01 ?_ ?_ | refine z00 ?_ ?_) <;> intro hc <;> (try simp only [push_cast] at hc)) | omega | with_reducible intro _))
   all_goals (simp only [z1t, e2, n01, n03, n13]; done)
 (repeat' (first | (simp (disch := omega) only [push_cast, ↓zz, seval, z1u, z1s, hg, e2, n01, n03, n13]) | (with_reducible first | refine And.intro ?_ ?_ | (first | refine z01 ?_ ?_ | refine z00 ?_ ?_) <;> intro hc <;> (try simp only [push_cast] at hc)) | ((with_reducible refine z0a ?_)) | ((with_reducible first | refine eQ T1 ?_ | refine eQ P1 ?_)) | ((with_reducible first | refine eQ T2 ?_ | refine eQ P2 ?_)) | ((with_reducible first | refine eQ T3 ?_ | refine eQ P3 ?_)) | ((with_reducible first | refine eK hF ?_ | refine eK hL ?_)) | omega | with_reducible intro _))
 all_goals ((try simp only [*, decide_true, decide_false, Bool.true_and, Bool.false_and]); (repeat' (first | (simp (disch := omega) only [push_cast, ↓zz, seval, z1f]) | omega | (with_reducible refine And.intro ?_ ?_))))
theorem zsc (bs dr tk up sm : Int) (p0 p1 p2 p3 : Part) (sets : List (List Span)) (hs : z1n sm = true) (hS : z2c [p0, p1, p2, p3] sets) (e2 : p2.at_ = p1.at_) (e3 : p3.at_ = p0.at_) (n01 : ¬ p0.at_ = p1.at_) :
   PC Try.prog 101 [z1m ⟨bs, dr, tk, up, sm, [p0, p1, p2, p3]⟩, z0b sets] (.tup [z03 (z0p ⟨bs, dr, tk, up, sm, [p0, p1, p2, p3]⟩ sets), .bool (z1s (z0p ⟨bs, dr, tk, up, sm, [p0, p1, p2, p3]⟩ sets))]) := by
 have hg := z06 sets
 have b0 := z08 (hS.parts p0 (by simp))
 have b1 := z08 (hS.parts p1 (by simp))
 have b2 := z08 (hS.parts p2 (by simp))
 have b3 := z08 (hS.parts p3 (by simp))
 have A0 := z2h hs
 obtain ⟨T1, P1, A1⟩ := z09 (a := p0.at_) hS A0 (by omega) (by simp)
 have l1 : atL [p0, p1, p2, p3] p0.at_ = [p0, p3] := by simp [atL, e2, e3, n01, Ne.symm (show p0.at_ ≠ p1.at_ from n01)]
 rw [l1] at T1 P1
 obtain ⟨T2, P2, A2⟩ := z09 (a := p1.at_) hS A1 (by omega) (by simp)
 have l2 : atL [p0, p1, p2, p3] p1.at_ = [p1, p2] := by simp [atL, e2, e3, n01, Ne.symm (show p0.at_ ≠ p1.at_ from n01)]
 rw [l2] at T2 P2
 have hv : z0p ⟨bs, dr, tk, up, sm, [p0, p1, p2, p3]⟩ sets = z0s [p0, p1, p2, p3] sets (z0s [p0, p1, p2, p3] sets ([⟨sm, sm⟩]) p0.at_) p1.at_ := by simp [z0p, z1r, z1o, e2, e3, n01, Ne.symm (show p0.at_ ≠ p1.at_ from n01)]
 rw [hv]
 generalize ho1 : z0s [p0, p1, p2, p3] sets ([⟨sm, sm⟩]) p0.at_ = o1 at *
 generalize ht1 : togL [p0, p3] (nth sets p0.at_.toNat) = t1 at *
 generalize ho2 : z0s [p0, p1, p2, p3] sets (o1) p1.at_ = o2 at *
 generalize ht2 : togL [p1, p2] (nth sets p1.at_.toNat) = t2 at *
 have hF := z0y o2 (by have := A2.2; omega)
 have hL := z1g o2 (by have := A2.2; omega)
 clear hS hv ho1 ht1 l1 ho2 ht2 l2
 refine z0t z0o ?_
 unfold z0m
 (repeat' (first | (simp (disch := omega) only [push_cast, ↓zz, seval]) | (with_reducible first | refine And.intro ?_ ?_ | (first | refine z01 ?_ ?_ | refine z00 ?_ ?_) <;> intro hc <;> (try simp only [push_cast] at hc)) | omega | with_reducible intro _))
 refine z0q 6 ?_
 (repeat' (first | (simp (disch := omega) only [push_cast, ↓zz, seval, xx, List.mem_cons, List.not_mem_nil, or_false, false_or, not_or, not_false_eq_true, true_or, or_true, z1u, setM, e2, e3, n01]) | (with_reducible first | refine And.intro ?_ ?_ | (first | refine z01 ?_ ?_ | refine z00 ?_ ?_) <;> intro hc <;> (try simp only [push_cast] at hc)) | ((with_reducible refine z0a ?_)) | ((with_reducible refine z2g [1, 5, 8] ?_)) | omega | with_reducible intro _))
 refine z0x 6 (fun env => [z0r 1 (env 6)]) [(1, z0b sets), (6, .map 0 1), (10, z03 [⟨sm, sm⟩]), (53, .lst 1 [.int .i64 p0.at_, .int .i64 p1.at_]), (54, .int .i64 2), (55, .int .i64 0)] [⟨0, 1, true, [.int .i64 p0.at_, z0u [p0, p3], .int .i64 p1.at_, z0u [p1, p2]]⟩] ?_ ?_
 · (repeat' (first | (simp (disch := omega) only [push_cast, ↓zz, seval, e2, e3, n01]) | (with_reducible first | refine And.intro ?_ ?_ | (first | refine z01 ?_ ?_ | refine z00 ?_ ?_) <;> intro hc <;> (try simp only [push_cast] at hc)) | omega | with_reducible intro _))
   all_goals (simp only [z1t, e2, e3, n01]; done)
 (repeat' (first | (simp (disch := omega) only [push_cast, ↓zz, seval, z1u, z1s, hg, e2, e3, n01]) | (with_reducible first | refine And.intro ?_ ?_ | (first | refine z01 ?_ ?_ | refine z00 ?_ ?_) <;> intro hc <;> (try simp only [push_cast] at hc)) | ((with_reducible refine z0a ?_)) | ((with_reducible first | refine eQ T1 ?_ | refine eQ P1 ?_)) | ((with_reducible first | refine eQ T2 ?_ | refine eQ P2 ?_)) | ((with_reducible first | refine eK hF ?_ | refine eK hL ?_)) | omega | with_reducible intro _))
 all_goals ((try simp only [*, decide_true, decide_false, Bool.true_and, Bool.false_and]); (repeat' (first | (simp (disch := omega) only [push_cast, ↓zz, seval, z1f]) | omega | (with_reducible refine And.intro ?_ ?_))))
theorem zsd (bs dr tk up sm : Int) (p0 p1 p2 p3 : Part) (sets : List (List Span)) (hs : z1n sm = true) (hS : z2c [p0, p1, p2, p3] sets) (e2 : p2.at_ = p1.at_) (e3 : p3.at_ = p1.at_) (n01 : ¬ p0.at_ = p1.at_) :
   PC Try.prog 101 [z1m ⟨bs, dr, tk, up, sm, [p0, p1, p2, p3]⟩, z0b sets] (.tup [z03 (z0p ⟨bs, dr, tk, up, sm, [p0, p1, p2, p3]⟩ sets), .bool (z1s (z0p ⟨bs, dr, tk, up, sm, [p0, p1, p2, p3]⟩ sets))]) := by
 have hg := z06 sets
 have b0 := z08 (hS.parts p0 (by simp))
 have b1 := z08 (hS.parts p1 (by simp))
 have b2 := z08 (hS.parts p2 (by simp))
 have b3 := z08 (hS.parts p3 (by simp))
 have A0 := z2h hs
 obtain ⟨T1, P1, A1⟩ := z09 (a := p0.at_) hS A0 (by omega) (by simp)
 have l1 : atL [p0, p1, p2, p3] p0.at_ = [p0] := by simp [atL, e2, e3, n01, Ne.symm (show p0.at_ ≠ p1.at_ from n01)]
 rw [l1] at T1 P1
 obtain ⟨T2, P2, A2⟩ := z09 (a := p1.at_) hS A1 (by omega) (by simp)
 have l2 : atL [p0, p1, p2, p3] p1.at_ = [p1, p2, p3] := by simp [atL, e2, e3, n01, Ne.symm (show p0.at_ ≠ p1.at_ from n01)]
 rw [l2] at T2 P2
 have hv : z0p ⟨bs, dr, tk, up, sm, [p0, p1, p2, p3]⟩ sets = z0s [p0, p1, p2, p3] sets (z0s [p0, p1, p2, p3] sets ([⟨sm, sm⟩]) p0.at_) p1.at_ := by simp [z0p, z1r, z1o, e2, e3, n01, Ne.symm (show p0.at_ ≠ p1.at_ from n01)]
 rw [hv]
 generalize ho1 : z0s [p0, p1, p2, p3] sets ([⟨sm, sm⟩]) p0.at_ = o1 at *
 generalize ht1 : togL [p0] (nth sets p0.at_.toNat) = t1 at *
 generalize ho2 : z0s [p0, p1, p2, p3] sets (o1) p1.at_ = o2 at *
 generalize ht2 : togL [p1, p2, p3] (nth sets p1.at_.toNat) = t2 at *
 have hF := z0y o2 (by have := A2.2; omega)
 have hL := z1g o2 (by have := A2.2; omega)
 clear hS hv ho1 ht1 l1 ho2 ht2 l2
 refine z0t z0o ?_
 unfold z0m
 (repeat' (first | (simp (disch := omega) only [push_cast, ↓zz, seval]) | (with_reducible first | refine And.intro ?_ ?_ | (first | refine z01 ?_ ?_ | refine z00 ?_ ?_) <;> intro hc <;> (try simp only [push_cast] at hc)) | omega | with_reducible intro _))
 refine z0q 6 ?_
 (repeat' (first | (simp (disch := omega) only [push_cast, ↓zz, seval, xx, List.mem_cons, List.not_mem_nil, or_false, false_or, not_or, not_false_eq_true, true_or, or_true, z1u, setM, e2, e3, n01]) | (with_reducible first | refine And.intro ?_ ?_ | (first | refine z01 ?_ ?_ | refine z00 ?_ ?_) <;> intro hc <;> (try simp only [push_cast] at hc)) | ((with_reducible refine z0a ?_)) | ((with_reducible refine z2g [1, 8] ?_)) | omega | with_reducible intro _))
 refine z0x 6 (fun env => [z0r 1 (env 6)]) [(1, z0b sets), (6, .map 0 1), (10, z03 [⟨sm, sm⟩]), (53, .lst 1 [.int .i64 p0.at_, .int .i64 p1.at_]), (54, .int .i64 2), (55, .int .i64 0)] [⟨0, 1, true, [.int .i64 p0.at_, z0u [p0], .int .i64 p1.at_, z0u [p1, p2, p3]]⟩] ?_ ?_
 · (repeat' (first | (simp (disch := omega) only [push_cast, ↓zz, seval, e2, e3, n01]) | (with_reducible first | refine And.intro ?_ ?_ | (first | refine z01 ?_ ?_ | refine z00 ?_ ?_) <;> intro hc <;> (try simp only [push_cast] at hc)) | omega | with_reducible intro _))
   all_goals (simp only [z1t, e2, e3, n01]; done)
 (repeat' (first | (simp (disch := omega) only [push_cast, ↓zz, seval, z1u, z1s, hg, e2, e3, n01]) | (with_reducible first | refine And.intro ?_ ?_ | (first | refine z01 ?_ ?_ | refine z00 ?_ ?_) <;> intro hc <;> (try simp only [push_cast] at hc)) | ((with_reducible refine z0a ?_)) | ((with_reducible first | refine eQ T1 ?_ | refine eQ P1 ?_)) | ((with_reducible first | refine eQ T2 ?_ | refine eQ P2 ?_)) | ((with_reducible first | refine eK hF ?_ | refine eK hL ?_)) | omega | with_reducible intro _))
 all_goals ((try simp only [*, decide_true, decide_false, Bool.true_and, Bool.false_and]); (repeat' (first | (simp (disch := omega) only [push_cast, ↓zz, seval, z1f]) | omega | (with_reducible refine And.intro ?_ ?_))))
theorem znf (bs dr tk up sm : Int) (p0 p1 p2 p3 : Part) (sets : List (List Span)) (hs : z1n sm = true) (hS : z2c [p0, p1, p2, p3] sets) (e2 : p2.at_ = p1.at_) (n01 : ¬ p0.at_ = p1.at_) (n03 : ¬ p0.at_ = p3.at_) (n13 : ¬ p1.at_ = p3.at_) :
   PC Try.prog 101 [z1m ⟨bs, dr, tk, up, sm, [p0, p1, p2, p3]⟩, z0b sets] (.tup [z03 (z0p ⟨bs, dr, tk, up, sm, [p0, p1, p2, p3]⟩ sets), .bool (z1s (z0p ⟨bs, dr, tk, up, sm, [p0, p1, p2, p3]⟩ sets))]) := by
 have hg := z06 sets
 have b0 := z08 (hS.parts p0 (by simp))
 have b1 := z08 (hS.parts p1 (by simp))
 have b2 := z08 (hS.parts p2 (by simp))
 have b3 := z08 (hS.parts p3 (by simp))
 have A0 := z2h hs
 obtain ⟨T1, P1, A1⟩ := z09 (a := p0.at_) hS A0 (by omega) (by simp)
 have l1 : atL [p0, p1, p2, p3] p0.at_ = [p0] := by simp [atL, e2, n01, n03, n13, Ne.symm (show p0.at_ ≠ p1.at_ from n01), Ne.symm (show p0.at_ ≠ p3.at_ from n03), Ne.symm (show p1.at_ ≠ p3.at_ from n13)]
 rw [l1] at T1 P1
 obtain ⟨T2, P2, A2⟩ := z09 (a := p1.at_) hS A1 (by omega) (by simp)
 have l2 : atL [p0, p1, p2, p3] p1.at_ = [p1, p2] := by simp [atL, e2, n01, n03, n13, Ne.symm (show p0.at_ ≠ p1.at_ from n01), Ne.symm (show p0.at_ ≠ p3.at_ from n03), Ne.symm (show p1.at_ ≠ p3.at_ from n13)]
 rw [l2] at T2 P2
 obtain ⟨T3, P3, A3⟩ := z09 (a := p3.at_) hS A2 (by omega) (by simp)
 have l3 : atL [p0, p1, p2, p3] p3.at_ = [p3] := by simp [atL, e2, n01, n03, n13, Ne.symm (show p0.at_ ≠ p1.at_ from n01), Ne.symm (show p0.at_ ≠ p3.at_ from n03), Ne.symm (show p1.at_ ≠ p3.at_ from n13)]
 rw [l3] at T3 P3
 have hv : z0p ⟨bs, dr, tk, up, sm, [p0, p1, p2, p3]⟩ sets = z0s [p0, p1, p2, p3] sets (z0s [p0, p1, p2, p3] sets (z0s [p0, p1, p2, p3] sets ([⟨sm, sm⟩]) p0.at_) p1.at_) p3.at_ := by simp [z0p, z1r, z1o, e2, n01, n03, n13, Ne.symm (show p0.at_ ≠ p1.at_ from n01), Ne.symm (show p0.at_ ≠ p3.at_ from n03), Ne.symm (show p1.at_ ≠ p3.at_ from n13)]
 rw [hv]
 generalize ho1 : z0s [p0, p1, p2, p3] sets ([⟨sm, sm⟩]) p0.at_ = o1 at *
 generalize ht1 : togL [p0] (nth sets p0.at_.toNat) = t1 at *
 generalize ho2 : z0s [p0, p1, p2, p3] sets (o1) p1.at_ = o2 at *
 generalize ht2 : togL [p1, p2] (nth sets p1.at_.toNat) = t2 at *
 generalize ho3 : z0s [p0, p1, p2, p3] sets (o2) p3.at_ = o3 at *
 generalize ht3 : togL [p3] (nth sets p3.at_.toNat) = t3 at *
 have hF := z0y o3 (by have := A3.2; omega)
 have hL := z1g o3 (by have := A3.2; omega)
 clear hS hv ho1 ht1 l1 ho2 ht2 l2 ho3 ht3 l3
 refine z0t z0o ?_
 unfold z0m
 (repeat' (first | (simp (disch := omega) only [push_cast, ↓zz, seval]) | (with_reducible first | refine And.intro ?_ ?_ | (first | refine z01 ?_ ?_ | refine z00 ?_ ?_) <;> intro hc <;> (try simp only [push_cast] at hc)) | omega | with_reducible intro _))
 refine z0q 6 ?_
 (repeat' (first | (simp (disch := omega) only [push_cast, ↓zz, seval, xx, List.mem_cons, List.not_mem_nil, or_false, false_or, not_or, not_false_eq_true, true_or, or_true, z1u, setM, e2, n01, n03, n13]) | (with_reducible first | refine And.intro ?_ ?_ | (first | refine z01 ?_ ?_ | refine z00 ?_ ?_) <;> intro hc <;> (try simp only [push_cast] at hc)) | ((with_reducible refine z0a ?_)) | ((with_reducible refine z2g [1, 8] ?_)) | omega | with_reducible intro _))
 refine z0x 6 (fun env => [z0r 1 (env 6)]) [(1, z0b sets), (6, .map 0 1), (10, z03 [⟨sm, sm⟩]), (53, .lst 1 [.int .i64 p0.at_, .int .i64 p1.at_, .int .i64 p3.at_]), (54, .int .i64 3), (55, .int .i64 0)] [⟨0, 1, true, [.int .i64 p0.at_, z0u [p0], .int .i64 p1.at_, z0u [p1, p2], .int .i64 p3.at_, z0u [p3]]⟩] ?_ ?_
 · (repeat' (first | (simp (disch := omega) only [push_cast, ↓zz, seval, e2, n01, n03, n13]) | (with_reducible first | refine And.intro ?_ ?_ | (first | refine z01 ?_ ?_ | refine z00 ?_ ?_) <;> intro hc <;> (try simp only [push_cast] at hc)) | omega | with_reducible intro _))
   all_goals (simp only [z1t, e2, n01, n03, n13]; done)
 (repeat' (first | (simp (disch := omega) only [push_cast, ↓zz, seval, z1u, z1s, hg, e2, n01, n03, n13]) | (with_reducible first | refine And.intro ?_ ?_ | (first | refine z01 ?_ ?_ | refine z00 ?_ ?_) <;> intro hc <;> (try simp only [push_cast] at hc)) | ((with_reducible refine z0a ?_)) | ((with_reducible first | refine eQ T1 ?_ | refine eQ P1 ?_)) | ((with_reducible first | refine eQ T2 ?_ | refine eQ P2 ?_)) | ((with_reducible first | refine eQ T3 ?_ | refine eQ P3 ?_)) | ((with_reducible first | refine eK hF ?_ | refine eK hL ?_)) | omega | with_reducible intro _))
 all_goals ((try simp only [*, decide_true, decide_false, Bool.true_and, Bool.false_and]); (repeat' (first | (simp (disch := omega) only [push_cast, ↓zz, seval, z1f]) | omega | (with_reducible refine And.intro ?_ ?_))))
theorem zng (bs dr tk up sm : Int) (p0 p1 p2 p3 : Part) (sets : List (List Span)) (hs : z1n sm = true) (hS : z2c [p0, p1, p2, p3] sets) (e3 : p3.at_ = p0.at_) (n01 : ¬ p0.at_ = p1.at_) (n02 : ¬ p0.at_ = p2.at_) (n12 : ¬ p1.at_ = p2.at_) :
   PC Try.prog 101 [z1m ⟨bs, dr, tk, up, sm, [p0, p1, p2, p3]⟩, z0b sets] (.tup [z03 (z0p ⟨bs, dr, tk, up, sm, [p0, p1, p2, p3]⟩ sets), .bool (z1s (z0p ⟨bs, dr, tk, up, sm, [p0, p1, p2, p3]⟩ sets))]) := by
 have hg := z06 sets
 have b0 := z08 (hS.parts p0 (by simp))
 have b1 := z08 (hS.parts p1 (by simp))
 have b2 := z08 (hS.parts p2 (by simp))
 have b3 := z08 (hS.parts p3 (by simp))
 have A0 := z2h hs
 obtain ⟨T1, P1, A1⟩ := z09 (a := p0.at_) hS A0 (by omega) (by simp)
 have l1 : atL [p0, p1, p2, p3] p0.at_ = [p0, p3] := by simp [atL, e3, n01, n02, n12, Ne.symm (show p0.at_ ≠ p1.at_ from n01), Ne.symm (show p0.at_ ≠ p2.at_ from n02), Ne.symm (show p1.at_ ≠ p2.at_ from n12)]
 rw [l1] at T1 P1
 obtain ⟨T2, P2, A2⟩ := z09 (a := p1.at_) hS A1 (by omega) (by simp)
 have l2 : atL [p0, p1, p2, p3] p1.at_ = [p1] := by simp [atL, e3, n01, n02, n12, Ne.symm (show p0.at_ ≠ p1.at_ from n01), Ne.symm (show p0.at_ ≠ p2.at_ from n02), Ne.symm (show p1.at_ ≠ p2.at_ from n12)]
 rw [l2] at T2 P2
 obtain ⟨T3, P3, A3⟩ := z09 (a := p2.at_) hS A2 (by omega) (by simp)
 have l3 : atL [p0, p1, p2, p3] p2.at_ = [p2] := by simp [atL, e3, n01, n02, n12, Ne.symm (show p0.at_ ≠ p1.at_ from n01), Ne.symm (show p0.at_ ≠ p2.at_ from n02), Ne.symm (show p1.at_ ≠ p2.at_ from n12)]
 rw [l3] at T3 P3
 have hv : z0p ⟨bs, dr, tk, up, sm, [p0, p1, p2, p3]⟩ sets = z0s [p0, p1, p2, p3] sets (z0s [p0, p1, p2, p3] sets (z0s [p0, p1, p2, p3] sets ([⟨sm, sm⟩]) p0.at_) p1.at_) p2.at_ := by simp [z0p, z1r, z1o, e3, n01, n02, n12, Ne.symm (show p0.at_ ≠ p1.at_ from n01), Ne.symm (show p0.at_ ≠ p2.at_ from n02), Ne.symm (show p1.at_ ≠ p2.at_ from n12)]
 rw [hv]
 generalize ho1 : z0s [p0, p1, p2, p3] sets ([⟨sm, sm⟩]) p0.at_ = o1 at *
 generalize ht1 : togL [p0, p3] (nth sets p0.at_.toNat) = t1 at *
 generalize ho2 : z0s [p0, p1, p2, p3] sets (o1) p1.at_ = o2 at *
 generalize ht2 : togL [p1] (nth sets p1.at_.toNat) = t2 at *
 generalize ho3 : z0s [p0, p1, p2, p3] sets (o2) p2.at_ = o3 at *
 generalize ht3 : togL [p2] (nth sets p2.at_.toNat) = t3 at *
 have hF := z0y o3 (by have := A3.2; omega)
 have hL := z1g o3 (by have := A3.2; omega)
 clear hS hv ho1 ht1 l1 ho2 ht2 l2 ho3 ht3 l3
 refine z0t z0o ?_
 unfold z0m
 (repeat' (first | (simp (disch := omega) only [push_cast, ↓zz, seval]) | (with_reducible first | refine And.intro ?_ ?_ | (first | refine z01 ?_ ?_ | refine z00 ?_ ?_) <;> intro hc <;> (try simp only [push_cast] at hc)) | omega | with_reducible intro _))
 refine z0q 6 ?_
 (repeat' (first | (simp (disch := omega) only [push_cast, ↓zz, seval, xx, List.mem_cons, List.not_mem_nil, or_false, false_or, not_or, not_false_eq_true, true_or, or_true, z1u, setM, e3, n01, n02, n12]) | (with_reducible first | refine And.intro ?_ ?_ | (first | refine z01 ?_ ?_ | refine z00 ?_ ?_) <;> intro hc <;> (try simp only [push_cast] at hc)) | ((with_reducible refine z0a ?_)) | ((with_reducible refine z2g [1, 5] ?_)) | omega | with_reducible intro _))
 refine z0x 6 (fun env => [z0r 1 (env 6)]) [(1, z0b sets), (6, .map 0 1), (10, z03 [⟨sm, sm⟩]), (53, .lst 1 [.int .i64 p0.at_, .int .i64 p1.at_, .int .i64 p2.at_]), (54, .int .i64 3), (55, .int .i64 0)] [⟨0, 1, true, [.int .i64 p0.at_, z0u [p0, p3], .int .i64 p1.at_, z0u [p1], .int .i64 p2.at_, z0u [p2]]⟩] ?_ ?_
 · (repeat' (first | (simp (disch := omega) only [push_cast, ↓zz, seval, e3, n01, n02, n12]) | (with_reducible first | refine And.intro ?_ ?_ | (first | refine z01 ?_ ?_ | refine z00 ?_ ?_) <;> intro hc <;> (try simp only [push_cast] at hc)) | omega | with_reducible intro _))
   all_goals (simp only [z1t, e3, n01, n02, n12]; done)
 (repeat' (first | (simp (disch := omega) only [push_cast, ↓zz, seval, z1u, z1s, hg, e3, n01, n02, n12]) | (with_reducible first | refine And.intro ?_ ?_ | (first | refine z01 ?_ ?_ | refine z00 ?_ ?_) <;> intro hc <;> (try simp only [push_cast] at hc)) | ((with_reducible refine z0a ?_)) | ((with_reducible first | refine eQ T1 ?_ | refine eQ P1 ?_)) | ((with_reducible first | refine eQ T2 ?_ | refine eQ P2 ?_)) | ((with_reducible first | refine eQ T3 ?_ | refine eQ P3 ?_)) | ((with_reducible first | refine eK hF ?_ | refine eK hL ?_)) | omega | with_reducible intro _))
 all_goals ((try simp only [*, decide_true, decide_false, Bool.true_and, Bool.false_and]); (repeat' (first | (simp (disch := omega) only [push_cast, ↓zz, seval, z1f]) | omega | (with_reducible refine And.intro ?_ ?_))))
theorem znh (bs dr tk up sm : Int) (p0 p1 p2 p3 : Part) (sets : List (List Span)) (hs : z1n sm = true) (hS : z2c [p0, p1, p2, p3] sets) (e3 : p3.at_ = p1.at_) (n01 : ¬ p0.at_ = p1.at_) (n02 : ¬ p0.at_ = p2.at_) (n12 : ¬ p1.at_ = p2.at_) :
   PC Try.prog 101 [z1m ⟨bs, dr, tk, up, sm, [p0, p1, p2, p3]⟩, z0b sets] (.tup [z03 (z0p ⟨bs, dr, tk, up, sm, [p0, p1, p2, p3]⟩ sets), .bool (z1s (z0p ⟨bs, dr, tk, up, sm, [p0, p1, p2, p3]⟩ sets))]) := by
 have hg := z06 sets
 have b0 := z08 (hS.parts p0 (by simp))
 have b1 := z08 (hS.parts p1 (by simp))
 have b2 := z08 (hS.parts p2 (by simp))
 have b3 := z08 (hS.parts p3 (by simp))
 have A0 := z2h hs
 obtain ⟨T1, P1, A1⟩ := z09 (a := p0.at_) hS A0 (by omega) (by simp)
 have l1 : atL [p0, p1, p2, p3] p0.at_ = [p0] := by simp [atL, e3, n01, n02, n12, Ne.symm (show p0.at_ ≠ p1.at_ from n01), Ne.symm (show p0.at_ ≠ p2.at_ from n02), Ne.symm (show p1.at_ ≠ p2.at_ from n12)]
 rw [l1] at T1 P1
 obtain ⟨T2, P2, A2⟩ := z09 (a := p1.at_) hS A1 (by omega) (by simp)
 have l2 : atL [p0, p1, p2, p3] p1.at_ = [p1, p3] := by simp [atL, e3, n01, n02, n12, Ne.symm (show p0.at_ ≠ p1.at_ from n01), Ne.symm (show p0.at_ ≠ p2.at_ from n02), Ne.symm (show p1.at_ ≠ p2.at_ from n12)]
 rw [l2] at T2 P2
 obtain ⟨T3, P3, A3⟩ := z09 (a := p2.at_) hS A2 (by omega) (by simp)
 have l3 : atL [p0, p1, p2, p3] p2.at_ = [p2] := by simp [atL, e3, n01, n02, n12, Ne.symm (show p0.at_ ≠ p1.at_ from n01), Ne.symm (show p0.at_ ≠ p2.at_ from n02), Ne.symm (show p1.at_ ≠ p2.at_ from n12)]
 rw [l3] at T3 P3
 have hv : z0p ⟨bs, dr, tk, up, sm, [p0, p1, p2, p3]⟩ sets = z0s [p0, p1, p2, p3] sets (z0s [p0, p1, p2, p3] sets (z0s [p0, p1, p2, p3] sets ([⟨sm, sm⟩]) p0.at_) p1.at_) p2.at_ := by simp [z0p, z1r, z1o, e3, n01, n02, n12, Ne.symm (show p0.at_ ≠ p1.at_ from n01), Ne.symm (show p0.at_ ≠ p2.at_ from n02), Ne.symm (show p1.at_ ≠ p2.at_ from n12)]
 rw [hv]
 generalize ho1 : z0s [p0, p1, p2, p3] sets ([⟨sm, sm⟩]) p0.at_ = o1 at *
 generalize ht1 : togL [p0] (nth sets p0.at_.toNat) = t1 at *
 generalize ho2 : z0s [p0, p1, p2, p3] sets (o1) p1.at_ = o2 at *
 generalize ht2 : togL [p1, p3] (nth sets p1.at_.toNat) = t2 at *
 generalize ho3 : z0s [p0, p1, p2, p3] sets (o2) p2.at_ = o3 at *
 generalize ht3 : togL [p2] (nth sets p2.at_.toNat) = t3 at *
 have hF := z0y o3 (by have := A3.2; omega)
 have hL := z1g o3 (by have := A3.2; omega)
 clear hS hv ho1 ht1 l1 ho2 ht2 l2 ho3 ht3 l3
 refine z0t z0o ?_
 unfold z0m
 (repeat' (first | (simp (disch := omega) only [push_cast, ↓zz, seval]) | (with_reducible first | refine And.intro ?_ ?_ | (first | refine z01 ?_ ?_ | refine z00 ?_ ?_) <;> intro hc <;> (try simp only [push_cast] at hc)) | omega | with_reducible intro _))
 refine z0q 6 ?_
 (repeat' (first | (simp (disch := omega) only [push_cast, ↓zz, seval, xx, List.mem_cons, List.not_mem_nil, or_false, false_or, not_or, not_false_eq_true, true_or, or_true, z1u, setM, e3, n01, n02, n12]) | (with_reducible first | refine And.intro ?_ ?_ | (first | refine z01 ?_ ?_ | refine z00 ?_ ?_) <;> intro hc <;> (try simp only [push_cast] at hc)) | ((with_reducible refine z0a ?_)) | ((with_reducible refine z2g [1, 8] ?_)) | omega | with_reducible intro _))
 refine z0x 6 (fun env => [z0r 1 (env 6)]) [(1, z0b sets), (6, .map 0 1), (10, z03 [⟨sm, sm⟩]), (53, .lst 1 [.int .i64 p0.at_, .int .i64 p1.at_, .int .i64 p2.at_]), (54, .int .i64 3), (55, .int .i64 0)] [⟨0, 1, true, [.int .i64 p0.at_, z0u [p0], .int .i64 p1.at_, z0u [p1, p3], .int .i64 p2.at_, z0u [p2]]⟩] ?_ ?_
 · (repeat' (first | (simp (disch := omega) only [push_cast, ↓zz, seval, e3, n01, n02, n12]) | (with_reducible first | refine And.intro ?_ ?_ | (first | refine z01 ?_ ?_ | refine z00 ?_ ?_) <;> intro hc <;> (try simp only [push_cast] at hc)) | omega | with_reducible intro _))
   all_goals (simp only [z1t, e3, n01, n02, n12]; done)
 (repeat' (first | (simp (disch := omega) only [push_cast, ↓zz, seval, z1u, z1s, hg, e3, n01, n02, n12]) | (with_reducible first | refine And.intro ?_ ?_ | (first | refine z01 ?_ ?_ | refine z00 ?_ ?_) <;> intro hc <;> (try simp only [push_cast] at hc)) | ((with_reducible refine z0a ?_)) | ((with_reducible first | refine eQ T1 ?_ | refine eQ P1 ?_)) | ((with_reducible first | refine eQ T2 ?_ | refine eQ P2 ?_)) | ((with_reducible first | refine eQ T3 ?_ | refine eQ P3 ?_)) | ((with_reducible first | refine eK hF ?_ | refine eK hL ?_)) | omega | with_reducible intro _))
 all_goals ((try simp only [*, decide_true, decide_false, Bool.true_and, Bool.false_and]); (repeat' (first | (simp (disch := omega) only [push_cast, ↓zz, seval, z1f]) | omega | (with_reducible refine And.intro ?_ ?_))))
theorem zni (bs dr tk up sm : Int) (p0 p1 p2 p3 : Part) (sets : List (List Span)) (hs : z1n sm = true) (hS : z2c [p0, p1, p2, p3] sets) (e3 : p3.at_ = p2.at_) (n01 : ¬ p0.at_ = p1.at_) (n02 : ¬ p0.at_ = p2.at_) (n12 : ¬ p1.at_ = p2.at_) :
   PC Try.prog 101 [z1m ⟨bs, dr, tk, up, sm, [p0, p1, p2, p3]⟩, z0b sets] (.tup [z03 (z0p ⟨bs, dr, tk, up, sm, [p0, p1, p2, p3]⟩ sets), .bool (z1s (z0p ⟨bs, dr, tk, up, sm, [p0, p1, p2, p3]⟩ sets))]) := by
 have hg := z06 sets
 have b0 := z08 (hS.parts p0 (by simp))
 have b1 := z08 (hS.parts p1 (by simp))
 have b2 := z08 (hS.parts p2 (by simp))
 have b3 := z08 (hS.parts p3 (by simp))
 have A0 := z2h hs
 obtain ⟨T1, P1, A1⟩ := z09 (a := p0.at_) hS A0 (by omega) (by simp)
 have l1 : atL [p0, p1, p2, p3] p0.at_ = [p0] := by simp [atL, e3, n01, n02, n12, Ne.symm (show p0.at_ ≠ p1.at_ from n01), Ne.symm (show p0.at_ ≠ p2.at_ from n02), Ne.symm (show p1.at_ ≠ p2.at_ from n12)]
 rw [l1] at T1 P1
 obtain ⟨T2, P2, A2⟩ := z09 (a := p1.at_) hS A1 (by omega) (by simp)
 have l2 : atL [p0, p1, p2, p3] p1.at_ = [p1] := by simp [atL, e3, n01, n02, n12, Ne.symm (show p0.at_ ≠ p1.at_ from n01), Ne.symm (show p0.at_ ≠ p2.at_ from n02), Ne.symm (show p1.at_ ≠ p2.at_ from n12)]
 rw [l2] at T2 P2
 obtain ⟨T3, P3, A3⟩ := z09 (a := p2.at_) hS A2 (by omega) (by simp)
 have l3 : atL [p0, p1, p2, p3] p2.at_ = [p2, p3] := by simp [atL, e3, n01, n02, n12, Ne.symm (show p0.at_ ≠ p1.at_ from n01), Ne.symm (show p0.at_ ≠ p2.at_ from n02), Ne.symm (show p1.at_ ≠ p2.at_ from n12)]
 rw [l3] at T3 P3
 have hv : z0p ⟨bs, dr, tk, up, sm, [p0, p1, p2, p3]⟩ sets = z0s [p0, p1, p2, p3] sets (z0s [p0, p1, p2, p3] sets (z0s [p0, p1, p2, p3] sets ([⟨sm, sm⟩]) p0.at_) p1.at_) p2.at_ := by simp [z0p, z1r, z1o, e3, n01, n02, n12, Ne.symm (show p0.at_ ≠ p1.at_ from n01), Ne.symm (show p0.at_ ≠ p2.at_ from n02), Ne.symm (show p1.at_ ≠ p2.at_ from n12)]
 rw [hv]
 generalize ho1 : z0s [p0, p1, p2, p3] sets ([⟨sm, sm⟩]) p0.at_ = o1 at *
 generalize ht1 : togL [p0] (nth sets p0.at_.toNat) = t1 at *
 generalize ho2 : z0s [p0, p1, p2, p3] sets (o1) p1.at_ = o2 at *
 generalize ht2 : togL [p1] (nth sets p1.at_.toNat) = t2 at *
 generalize ho3 : z0s [p0, p1, p2, p3] sets (o2) p2.at_ = o3 at *
 generalize ht3 : togL [p2, p3] (nth sets p2.at_.toNat) = t3 at *
 have hF := z0y o3 (by have := A3.2; omega)
 have hL := z1g o3 (by have := A3.2; omega)
 clear hS hv ho1 ht1 l1 ho2 ht2 l2 ho3 ht3 l3
 refine z0t z0o ?_
 unfold z0m
 (repeat' (first | (simp (disch := omega) only [push_cast, ↓zz, seval]) | (with_reducible first | refine And.intro ?_ ?_ | (first | refine z01 ?_ ?_ | refine z00 ?_ ?_) <;> intro hc <;> (try simp only [push_cast] at hc)) | omega | with_reducible intro _))
 refine z0q 6 ?_
 (repeat' (first | (simp (disch := omega) only [push_cast, ↓zz, seval, xx, List.mem_cons, List.not_mem_nil, or_false, false_or, not_or, not_false_eq_true, true_or, or_true, z1u, setM, e3, n01, n02, n12]) | (with_reducible first | refine And.intro ?_ ?_ | (first | refine z01 ?_ ?_ | refine z00 ?_ ?_) <;> intro hc <;> (try simp only [push_cast] at hc)) | ((with_reducible refine z0a ?_)) | ((with_reducible refine z2g [1, 11] ?_)) | omega | with_reducible intro _))
 refine z0x 6 (fun env => [z0r 1 (env 6)]) [(1, z0b sets), (6, .map 0 1), (10, z03 [⟨sm, sm⟩]), (53, .lst 1 [.int .i64 p0.at_, .int .i64 p1.at_, .int .i64 p2.at_]), (54, .int .i64 3), (55, .int .i64 0)] [⟨0, 1, true, [.int .i64 p0.at_, z0u [p0], .int .i64 p1.at_, z0u [p1], .int .i64 p2.at_, z0u [p2, p3]]⟩] ?_ ?_
 · (repeat' (first | (simp (disch := omega) only [push_cast, ↓zz, seval, e3, n01, n02, n12]) | (with_reducible first | refine And.intro ?_ ?_ | (first | refine z01 ?_ ?_ | refine z00 ?_ ?_) <;> intro hc <;> (try simp only [push_cast] at hc)) | omega | with_reducible intro _))
   all_goals (simp only [z1t, e3, n01, n02, n12]; done)
 (repeat' (first | (simp (disch := omega) only [push_cast, ↓zz, seval, z1u, z1s, hg, e3, n01, n02, n12]) | (with_reducible first | refine And.intro ?_ ?_ | (first | refine z01 ?_ ?_ | refine z00 ?_ ?_) <;> intro hc <;> (try simp only [push_cast] at hc)) | ((with_reducible refine z0a ?_)) | ((with_reducible first | refine eQ T1 ?_ | refine eQ P1 ?_)) | ((with_reducible first | refine eQ T2 ?_ | refine eQ P2 ?_)) | ((with_reducible first | refine eQ T3 ?_ | refine eQ P3 ?_)) | ((with_reducible first | refine eK hF ?_ | refine eK hL ?_)) | omega | with_reducible intro _))
 all_goals ((try simp only [*, decide_true, decide_false, Bool.true_and, Bool.false_and]); (repeat' (first | (simp (disch := omega) only [push_cast, ↓zz, seval, z1f]) | omega | (with_reducible refine And.intro ?_ ?_))))
theorem znj (bs dr tk up sm : Int) (p0 p1 p2 p3 : Part) (sets : List (List Span)) (hs : z1n sm = true) (hS : z2c [p0, p1, p2, p3] sets) (n01 : ¬ p0.at_ = p1.at_) (n02 : ¬ p0.at_ = p2.at_) (n03 : ¬ p0.at_ = p3.at_) (n12 : ¬ p1.at_ = p2.at_) (n13 : ¬ p1.at_ = p3.at_) (n23 : ¬ p2.at_ = p3.at_) :
   PC Try.prog 101 [z1m ⟨bs, dr, tk, up, sm, [p0, p1, p2, p3]⟩, z0b sets] (.tup [z03 (z0p ⟨bs, dr, tk, up, sm, [p0, p1, p2, p3]⟩ sets), .bool (z1s (z0p ⟨bs, dr, tk, up, sm, [p0, p1, p2, p3]⟩ sets))]) := by
 have hg := z06 sets
 have b0 := z08 (hS.parts p0 (by simp))
 have b1 := z08 (hS.parts p1 (by simp))
 have b2 := z08 (hS.parts p2 (by simp))
 have b3 := z08 (hS.parts p3 (by simp))
 have A0 := z2h hs
 obtain ⟨T1, P1, A1⟩ := z09 (a := p0.at_) hS A0 (by omega) (by simp)
 have l1 : atL [p0, p1, p2, p3] p0.at_ = [p0] := by simp [atL, n01, n02, n03, n12, n13, n23, Ne.symm (show p0.at_ ≠ p1.at_ from n01), Ne.symm (show p0.at_ ≠ p2.at_ from n02), Ne.symm (show p0.at_ ≠ p3.at_ from n03), Ne.symm (show p1.at_ ≠ p2.at_ from n12), Ne.symm (show p1.at_ ≠ p3.at_ from n13), Ne.symm (show p2.at_ ≠ p3.at_ from n23)]
 rw [l1] at T1 P1
 obtain ⟨T2, P2, A2⟩ := z09 (a := p1.at_) hS A1 (by omega) (by simp)
 have l2 : atL [p0, p1, p2, p3] p1.at_ = [p1] := by simp [atL, n01, n02, n03, n12, n13, n23, Ne.symm (show p0.at_ ≠ p1.at_ from n01), Ne.symm (show p0.at_ ≠ p2.at_ from n02), Ne.symm (show p0.at_ ≠ p3.at_ from n03), Ne.symm (show p1.at_ ≠ p2.at_ from n12), Ne.symm (show p1.at_ ≠ p3.at_ from n13), Ne.symm (show p2.at_ ≠ p3.at_ from n23)]
 rw [l2] at T2 P2
 obtain ⟨T3, P3, A3⟩ := z09 (a := p2.at_) hS A2 (by omega) (by simp)
 have l3 : atL [p0, p1, p2, p3] p2.at_ = [p2] := by simp [atL, n01, n02, n03, n12, n13, n23, Ne.symm (show p0.at_ ≠ p1.at_ from n01), Ne.symm (show p0.at_ ≠ p2.at_ from n02), Ne.symm (show p0.at_ ≠ p3.at_ from n03), Ne.symm (show p1.at_ ≠ p2.at_ from n12), Ne.symm (show p1.at_ ≠ p3.at_ from n13), Ne.symm (show p2.at_ ≠ p3.at_ from n23)]
 rw [l3] at T3 P3
 obtain ⟨T4, P4, A4⟩ := z09 (a := p3.at_) hS A3 (by omega) (by simp)
 have l4 : atL [p0, p1, p2, p3] p3.at_ = [p3] := by simp [atL, n01, n02, n03, n12, n13, n23, Ne.symm (show p0.at_ ≠ p1.at_ from n01), Ne.symm (show p0.at_ ≠ p2.at_ from n02), Ne.symm (show p0.at_ ≠ p3.at_ from n03), Ne.symm (show p1.at_ ≠ p2.at_ from n12), Ne.symm (show p1.at_ ≠ p3.at_ from n13), Ne.symm (show p2.at_ ≠ p3.at_ from n23)]
 rw [l4] at T4 P4
 have hv : z0p ⟨bs, dr, tk, up, sm, [p0, p1, p2, p3]⟩ sets = z0s [p0, p1, p2, p3] sets (z0s [p0, p1, p2, p3] sets (z0s [p0, p1, p2, p3] sets (z0s [p0, p1, p2, p3] sets ([⟨sm, sm⟩]) p0.at_) p1.at_) p2.at_) p3.at_ := by simp [z0p, z1r, z1o, n01, n02, n03, n12, n13, n23, Ne.symm (show p0.at_ ≠ p1.at_ from n01), Ne.symm (show p0.at_ ≠ p2.at_ from n02), Ne.symm (show p0.at_ ≠ p3.at_ from n03), Ne.symm (show p1.at_ ≠ p2.at_ from n12), Ne.symm (show p1.at_ ≠ p3.at_ from n13), Ne.symm (show p2.at_ ≠ p3.at_ from n23)]
 rw [hv]
 generalize ho1 : z0s [p0, p1, p2, p3] sets ([⟨sm, sm⟩]) p0.at_ = o1 at *
 generalize ht1 : togL [p0] (nth sets p0.at_.toNat) = t1 at *
 generalize ho2 : z0s [p0, p1, p2, p3] sets (o1) p1.at_ = o2 at *
 generalize ht2 : togL [p1] (nth sets p1.at_.toNat) = t2 at *
 generalize ho3 : z0s [p0, p1, p2, p3] sets (o2) p2.at_ = o3 at *
 generalize ht3 : togL [p2] (nth sets p2.at_.toNat) = t3 at *
 generalize ho4 : z0s [p0, p1, p2, p3] sets (o3) p3.at_ = o4 at *
 generalize ht4 : togL [p3] (nth sets p3.at_.toNat) = t4 at *
 have hF := z0y o4 (by have := A4.2; omega)
 have hL := z1g o4 (by have := A4.2; omega)
 clear hS hv ho1 ht1 l1 ho2 ht2 l2 ho3 ht3 l3 ho4 ht4 l4
 refine z0t z0o ?_
 unfold z0m
 (repeat' (first | (simp (disch := omega) only [push_cast, ↓zz, seval]) | (with_reducible first | refine And.intro ?_ ?_ | (first | refine z01 ?_ ?_ | refine z00 ?_ ?_) <;> intro hc <;> (try simp only [push_cast] at hc)) | omega | with_reducible intro _))
 refine z0q 6 ?_
 (repeat' (first | (simp (disch := omega) only [push_cast, ↓zz, seval, xx, List.mem_cons, List.not_mem_nil, or_false, false_or, not_or, not_false_eq_true, true_or, or_true, z1u, setM, n01, n02, n03, n12, n13, n23]) | (with_reducible first | refine And.intro ?_ ?_ | (first | refine z01 ?_ ?_ | refine z00 ?_ ?_) <;> intro hc <;> (try simp only [push_cast] at hc)) | ((with_reducible refine z0a ?_)) | ((with_reducible refine z2g [1] ?_)) | omega | with_reducible intro _))
 refine z0x 6 (fun env => [z0r 1 (env 6)]) [(1, z0b sets), (6, .map 0 1), (10, z03 [⟨sm, sm⟩]), (53, .lst 1 [.int .i64 p0.at_, .int .i64 p1.at_, .int .i64 p2.at_, .int .i64 p3.at_]), (54, .int .i64 4), (55, .int .i64 0)] [⟨0, 1, true, [.int .i64 p0.at_, z0u [p0], .int .i64 p1.at_, z0u [p1], .int .i64 p2.at_, z0u [p2], .int .i64 p3.at_, z0u [p3]]⟩] ?_ ?_
 · (repeat' (first | (simp (disch := omega) only [push_cast, ↓zz, seval, n01, n02, n03, n12, n13, n23]) | (with_reducible first | refine And.intro ?_ ?_ | (first | refine z01 ?_ ?_ | refine z00 ?_ ?_) <;> intro hc <;> (try simp only [push_cast] at hc)) | omega | with_reducible intro _))
   all_goals (simp only [z1t, n01, n02, n03, n12, n13, n23]; done)
 (repeat' (first | (simp (disch := omega) only [push_cast, ↓zz, seval, z1u, z1s, hg, n01, n02, n03, n12, n13, n23]) | (with_reducible first | refine And.intro ?_ ?_ | (first | refine z01 ?_ ?_ | refine z00 ?_ ?_) <;> intro hc <;> (try simp only [push_cast] at hc)) | ((with_reducible refine z0a ?_)) | ((with_reducible first | refine eQ T1 ?_ | refine eQ P1 ?_)) | ((with_reducible first | refine eQ T2 ?_ | refine eQ P2 ?_)) | ((with_reducible first | refine eQ T3 ?_ | refine eQ P3 ?_)) | ((with_reducible first | refine eQ T4 ?_ | refine eQ P4 ?_)) | ((with_reducible first | refine eK hF ?_ | refine eK hL ?_)) | omega | with_reducible intro _))
 all_goals ((try simp only [*, decide_true, decide_false, Bool.true_and, Bool.false_and]); (repeat' (first | (simp (disch := omega) only [push_cast, ↓zz, seval, z1f]) | omega | (with_reducible refine And.intro ?_ ?_))))
theorem y12 (bs dr tk up sm : Int) (p0 p1 p2 p3 : Part) (sets : List (List Span)) (hs : z1n sm = true) (hS : z2c [p0, p1, p2, p3] sets) :
   PC Try.prog 101 [z1m ⟨bs, dr, tk, up, sm, [p0, p1, p2, p3]⟩, z0b sets] (.tup [z03 (z0p ⟨bs, dr, tk, up, sm, [p0, p1, p2, p3]⟩ sets), .bool (z1s (z0p ⟨bs, dr, tk, up, sm, [p0, p1, p2, p3]⟩ sets))]) := by
 rcases Classical.em (p1.at_ = p0.at_) with e1 | x01
 · skip
   rcases Classical.em (p2.at_ = p0.at_) with e2 | x02
   · skip
     rcases Classical.em (p3.at_ = p0.at_) with e3 | x03
     · skip
       exact zs4 bs dr tk up sm p0 p1 p2 p3 sets hs hS e1 e2 e3
     have n03 : ¬ p0.at_ = p3.at_ := fun h => x03 h.symm
     exact zs5 bs dr tk up sm p0 p1 p2 p3 sets hs hS e1 e2 n03
   have n02 : ¬ p0.at_ = p2.at_ := fun h => x02 h.symm
   rcases Classical.em (p3.at_ = p0.at_) with e3 | x03
   · skip
     exact zs6 bs dr tk up sm p0 p1 p2 p3 sets hs hS e1 e3 n02
   have n03 : ¬ p0.at_ = p3.at_ := fun h => x03 h.symm
   rcases Classical.em (p3.at_ = p2.at_) with e3 | x23
   · skip
     exact zs7 bs dr tk up sm p0 p1 p2 p3 sets hs hS e1 e3 n02
   have n23 : ¬ p2.at_ = p3.at_ := fun h => x23 h.symm
   exact zs8 bs dr tk up sm p0 p1 p2 p3 sets hs hS e1 n02 n03 n23
 have n01 : ¬ p0.at_ = p1.at_ := fun h => x01 h.symm
 rcases Classical.em (p2.at_ = p0.at_) with e2 | x02
 · skip
   rcases Classical.em (p3.at_ = p0.at_) with e3 | x03
   · skip
     exact zs9 bs dr tk up sm p0 p1 p2 p3 sets hs hS e2 e3 n01
   have n03 : ¬ p0.at_ = p3.at_ := fun h => x03 h.symm
   rcases Classical.em (p3.at_ = p1.at_) with e3 | x13
   · skip
     exact zsa bs dr tk up sm p0 p1 p2 p3 sets hs hS e2 e3 n01
   have n13 : ¬ p1.at_ = p3.at_ := fun h => x13 h.symm
   exact zsb bs dr tk up sm p0 p1 p2 p3 sets hs hS e2 n01 n03 n13
 have n02 : ¬ p0.at_ = p2.at_ := fun h => x02 h.symm
 rcases Classical.em (p2.at_ = p1.at_) with e2 | x12
 · skip
   rcases Classical.em (p3.at_ = p0.at_) with e3 | x03
   · skip
     exact zsc bs dr tk up sm p0 p1 p2 p3 sets hs hS e2 e3 n01
   have n03 : ¬ p0.at_ = p3.at_ := fun h => x03 h.symm
   rcases Classical.em (p3.at_ = p1.at_) with e3 | x13
   · skip
     exact zsd bs dr tk up sm p0 p1 p2 p3 sets hs hS e2 e3 n01
   have n13 : ¬ p1.at_ = p3.at_ := fun h => x13 h.symm
   exact znf bs dr tk up sm p0 p1 p2 p3 sets hs hS e2 n01 n03 n13
 have n12 : ¬ p1.at_ = p2.at_ := fun h => x12 h.symm
 rcases Classical.em (p3.at_ = p0.at_) with e3 | x03
 · skip
   exact zng bs dr tk up sm p0 p1 p2 p3 sets hs hS e3 n01 n02 n12
 have n03 : ¬ p0.at_ = p3.at_ := fun h => x03 h.symm
 rcases Classical.em (p3.at_ = p1.at_) with e3 | x13
 · skip
   exact znh bs dr tk up sm p0 p1 p2 p3 sets hs hS e3 n01 n02 n12
 have n13 : ¬ p1.at_ = p3.at_ := fun h => x13 h.symm
 rcases Classical.em (p3.at_ = p2.at_) with e3 | x23
 · skip
   exact zni bs dr tk up sm p0 p1 p2 p3 sets hs hS e3 n01 n02 n12
 have n23 : ¬ p2.at_ = p3.at_ := fun h => x23 h.symm
 exact znj bs dr tk up sm p0 p1 p2 p3 sets hs hS n01 n02 n03 n12 n13 n23
theorem znk (t : Term) (sets : List (List Span)) (hl : t.parts.length ≤ 4) (hs : z1n t.sum = true) (hS : z2c t.parts sets) :
   PC Try.prog 101 [z1m t, z0b sets] (.tup [z03 (z0p t sets), .bool (z1s (z0p t sets))]) := by
 obtain ⟨bs, dr, tk, up, sm, l⟩ := t
 match l, hl, hS with
 | [], _, hS => exact y0y bs dr tk up sm sets hs hS
 | [p0], _, hS => exact y0z bs dr tk up sm p0 sets hs hS
 | [p0, p1], _, hS => exact y10 bs dr tk up sm p0 p1 sets hs hS
 | [p0, p1, p2], _, hS => exact y11 bs dr tk up sm p0 p1 p2 sets hs hS
 | [p0, p1, p2, p3], _, hS => exact y12 bs dr tk up sm p0 p1 p2 p3 sets hs hS
 | _ :: _ :: _ :: _ :: _ :: _, hl, _ => simp at hl
def midG (gs : List (List Span)) (k : Nat) : List (List Span) := (gs.take k).map symI ++ List.replicate (gs.length - k) []
theorem zpq {gs : List (List Span)} {k : Nat} (h : k ≤ gs.length) : (midG gs k).length = gs.length := by simp [midG]; omega
theorem y13 (gs : List (List Span)) : midG gs gs.length = gs.map symI := by simp [midG]
theorem y14 {gs : List (List Span)} {k : Nat} (h : k < gs.length) : ((midG gs k).map z03).set k (z03 (symI (nth gs k))) = (midG gs (k + 1)).map z03 := by
 have e : gs.length - k = (gs.length - (k + 1)) + 1 := by omega
 rw [midG, midG, take_at h, e, List.replicate_succ, List.map_append, List.set_append_right _ _ (by simp; omega)]
 simp [show min k gs.length = k by omega]
theorem y6d {gs : List (List Span)} {k : Nat} (h : k < gs.length) : nth (midG gs (k + 1)) k = symI (nth gs k) := by
 rw [midG, take_at h, nth, List.getD_eq_getElem?_getD, List.map_append, List.append_assoc, List.getElem?_append_right (by simp; omega)]
 simp [show min k gs.length = k by omega]
theorem y15 (n : Nat) : z0l (List.replicate n AV.nilS) = true := by
 induction n with
 | zero => rfl
 | succ n ih => simp [List.replicate_succ, z0l, AV.pure, ih]
theorem y16 (l : List Grp) (gs : List (List Span)) : leSL l (List.replicate gs.length .nilS) ((midG gs 0).map z03) := by
 simp only [midG, List.take_zero, List.map_nil, List.nil_append, Nat.sub_zero, List.map_replicate]
 generalize gs.length = n
 induction n with
 | zero => rfl
 | succ n ih => exact ⟨⟨by decide, rfl⟩, ih⟩
def zay (gs : List (List Span)) (k : Nat) : Bool := (gs.take k).all fun g => decide (0 < ((symI g).length : Int))
theorem y17 {gs : List (List Span)} {k : Nat} (h : k < gs.length) : zay gs (k + 1) = (zay gs k && decide (0 < ((symI (nth gs k)).length : Int))) := by
 rw [zay, take_at h, List.all_append]; simp [zay]
def prtB (t : Term) (n : Int) : Bool := t.parts.all fun p => z2t p n
def z3x (t : Term) (gs : List (List Span)) : List Span × Bool :=
 if 4 < gs.length ∨ z1p t = false then ([], false) else if prtB t gs.length = false then ([], false) else
   if zay gs gs.length = false then ([], true) else (z0p t (gs.map symI), z1s (z0p t (gs.map symI)))
theorem y9y {l : List Part} {n : Int} {k : Nat} (h : k < l.length) : (l.drop k).all (fun p => z2t p n) = (z2t (nth l k) n && (l.drop (k + 1)).all fun p => z2t p n) := by rw [drop_at h, List.all_cons]
theorem z84 {t : Term} {gs : List (List Span)} (h : prtB t gs.length = true) (hg : gs.length ≤ 4) : z2c t.parts (gs.map symI) where
 parts p hp := by
   rw [List.length_map]
   exact List.all_eq_true.1 h p hp
 syms s hs := by
   obtain ⟨g, _, rfl⟩ := List.mem_map.1 hs
   exact zle g
 many := by simp; omega
theorem zse (t : Term) (gs : List (List Span)) (ht : t.parts.length < 1000000000000) (hg : ∀ g ∈ gs, g.length ≤ 1000000) (hl : gs.length ≤ 9223372036854775807) :
   PC Try.prog 80 [z1m t, z0b gs] (.tup [z03 (z3x t gs).1, .bool (z3x t gs).2]) := by
 have hP := z06 gs
 have hN := z7d t ht
 have hY := zlf
 refine z0t zkl ?_
 unfold zbn
 by_cases h1 : 4 < gs.length ∨ z1p t = false
 · rw [z3x, if_pos h1]
   (repeat' (first | (simp (disch := omega) only [push_cast, ↓zz, seval]) | (with_reducible first | refine And.intro ?_ ?_ | (first | refine z01 ?_ ?_ | refine z00 ?_ ?_) <;> intro hc <;> (try simp only [push_cast] at hc)) | ((with_reducible first | refine eK hN ?_ | refine eQ hN ?_ | refine eG hN ?_)) | ((with_reducible first | refine cK hN ?_ | refine cQ hN ?_ | refine cG hN ?_); (simp (disch := omega) only [push_cast, ↓zz, seval]); (fail_if_success (with_reducible change False))) | omega | with_reducible intro _))
   all_goals first
     | ((repeat' (first | (simp (disch := omega) only [push_cast, ↓zz, seval, z1f]) | omega | (with_reducible refine And.intro ?_ ?_))); done)
     | (exfalso; rcases h1 with h1 | h1 <;> first | omega | simp_all)
 have h4 : gs.length ≤ 4 := by omega
 have hn : z1p t = true := by simpa using (not_or.1 h1).2
 (repeat' (first | (simp (disch := omega) only [push_cast, ↓zz, seval, hn]) | (with_reducible first | refine And.intro ?_ ?_ | (first | refine z01 ?_ ?_ | refine z00 ?_ ?_) <;> intro hc <;> (try simp only [push_cast] at hc)) | ((with_reducible first | refine eK hN ?_ | refine eQ hN ?_ | refine eG hN ?_)) | ((with_reducible first | refine cK hN ?_ | refine cQ hN ?_ | refine cG hN ?_); (simp (disch := omega) only [push_cast, ↓zz, seval, hn]); (fail_if_success (with_reducible change False))) | omega | with_reducible intro _))
 refine z0i (z0j (fun (k : Nat) => k ≤ gs.length) (fun k => gs.length - k)
   (fun k => [(1, z0b gs), (2, .ptr 0 1 0 0), (6, .bool (zay gs k)), (7, .ref 1 1 0 gs.length), (23, z0b gs), (24, .int .i64 gs.length), (25, .int .i64 k)]) (fun k => [⟨6, 1, true, [z1m t]⟩, ⟨1, 1, true, (midG gs k).map z03⟩]) (fun env _ => [z0r 1 (env 2), z0r 1 (env 7)]) 0 (by simp) ?_ ?_)
 · have e := y16
   have hr : z0l (List.replicate gs.length AV.nilS) = true := y15 gs.length
   have hs0 : zay gs 0 = true := rfl
   (repeat' (first | (simp (disch := omega) only [push_cast, ↓zz, seval, hs0, hP, hr]) | (with_reducible first | refine And.intro ?_ ?_ | (first | refine z01 ?_ ?_ | refine z00 ?_ ?_) <;> intro hc <;> (try simp only [push_cast] at hc)) | omega | with_reducible intro _))
   all_goals exact e _ gs
 intro k hk
 have hml := zpq hk
 have hpm := z06 (midG gs k)
 rcases Nat.lt_or_ge k gs.length with hkl | hkl
 · have hM := ze1 (nth gs k) [⟨0, 1114111⟩] (by have := hg _ (z0k hkl); omega) (by simp)
   rw [y0w] at hM
   have e1 := y14 hkl
   have e2 := y6d hkl
   have e3 := y17 hkl
   have hpm2 := z06 (midG gs (k + 1))
   have hml2 := zpq (gs := gs) (k := k + 1) (by omega)
   refine W_T ?_
   (repeat' (first | (simp (disch := omega) only [push_cast, ↓zz, seval, hP, hpm, hpm2, hml, hml2, e1, e2]) | (with_reducible first | refine And.intro ?_ ?_ | (first | refine z01 ?_ ?_ | refine z00 ?_ ?_) <;> intro hc <;> (try simp only [push_cast] at hc)) | ((with_reducible first | refine eK hY ?_ | refine eQ hY ?_ | refine eG hY ?_)) | ((with_reducible first | refine eK hM ?_ | refine eQ hM ?_ | refine eG hM ?_)) | ((with_reducible first | refine cK hY ?_ | refine cQ hY ?_ | refine cG hY ?_); (simp (disch := omega) only [push_cast, ↓zz, seval, hP, hpm, hpm2, hml, hml2, e1, e2]); (fail_if_success (with_reducible change False))) | ((with_reducible first | refine cK hM ?_ | refine cQ hM ?_ | refine cG hM ?_); (simp (disch := omega) only [push_cast, ↓zz, seval, hP, hpm, hpm2, hml, hml2, e1, e2]); (fail_if_success (with_reducible change False))) | omega | with_reducible intro _))
   all_goals
     refine ⟨k + 1, ?_⟩
     (repeat' (first | (simp (disch := omega) only [push_cast, ↓zz, seval, e3]) | (with_reducible first | refine And.intro ?_ ?_ | (first | refine z01 ?_ ?_ | refine z00 ?_ ?_) <;> intro hc <;> (try simp only [push_cast] at hc)) | omega | with_reducible intro _))
   all_goals (simp only [*, Bool.true_and, Bool.false_and])
 · obtain rfl : k = gs.length := by omega
   rw [y13] at *
   refine W_T ?_
   (repeat' (first | (simp (disch := omega) only [push_cast, ↓zz, seval, hP, hpm]) | (with_reducible first | refine And.intro ?_ ?_ | (first | refine z01 ?_ ?_ | refine z00 ?_ ?_) <;> intro hc <;> (try simp only [push_cast] at hc)) | omega | with_reducible intro _))
   refine z0i (z0j (fun (k : Nat) => k ≤ t.parts.length ∧ prtB t gs.length = (t.parts.drop k).all fun p => z2t p gs.length) (fun k => t.parts.length - k)
     (fun k => [(1, z0b gs), (2, .ptr 0 1 0 0), (6, .bool (zay gs gs.length)), (7, z0b (gs.map symI)), (47, z0u t.parts), (48, .int .i64 t.parts.length), (49, .int .i64 k)]) (fun k => [⟨6, 1, true, [z1m t]⟩]) (fun env _ => [z0r 1 (env 2)]) 0 ⟨by simp, rfl⟩ ?_ ?_)
   · have et : List.take gs.length (gs.map symI) = gs.map symI := List.take_of_length_le (by simp)
     (repeat' (first | (simp (disch := omega) only [push_cast, ↓zz, seval, hP, hpm, et]) | (with_reducible first | refine And.intro ?_ ?_ | (first | refine z01 ?_ ?_ | refine z00 ?_ ?_) <;> intro hc <;> (try simp only [push_cast] at hc)) | omega | with_reducible intro _))
   rintro k ⟨k1, k2⟩
   rcases Nat.lt_or_ge k t.parts.length with hkp | hkp
   · have hR := z7z (nth t.parts k) gs.length
     rw [y9y hkp] at k2
     refine W_T ?_
     (repeat' (first | (simp (disch := omega) only [push_cast, ↓zz, seval, hP, hpm]) | (with_reducible first | refine And.intro ?_ ?_ | (first | refine z01 ?_ ?_ | refine z00 ?_ ?_) <;> intro hc <;> (try simp only [push_cast] at hc)) | ((with_reducible first | refine eK hR ?_ | refine eQ hR ?_ | refine eG hR ?_)) | ((with_reducible first | refine cK hR ?_ | refine cQ hR ?_ | refine cG hR ?_); (simp (disch := omega) only [push_cast, ↓zz, seval, hP, hpm]); (fail_if_success (with_reducible change False))) | omega | with_reducible intro _))
     · have hp : prtB t gs.length = false := by rw [k2]; simp [*]
       rw [z3x, if_neg h1, if_pos hp]
       (repeat' (first | (simp (disch := omega) only [push_cast, ↓zz, seval, z1f]) | omega | (with_reducible refine And.intro ?_ ?_)))
     · exact ⟨k + 1, by push_cast, ⟨by omega, by rw [k2]; simp [*]⟩, by omega⟩
   · rw [List.drop_of_length_le hkp] at k2
     have hp : prtB t gs.length = true := k2
     have hnum := hn
     simp only [z1p, Bool.and_eq_true, decide_eq_true_eq] at hnum
     have hV := znk t (gs.map symI) hnum.2.2 hnum.1.1.2 (z84 hp h4)
     have hI : z3x t gs = if zay gs gs.length = false then ([], true) else (z0p t (gs.map symI), z1s (z0p t (gs.map symI))) := by rw [z3x, if_neg h1, if_neg (by simp [hp])]
     refine W_T ?_
     (repeat' (first | (simp (disch := omega) only [push_cast, ↓zz, seval, hP, hpm]) | (with_reducible first | refine And.intro ?_ ?_ | (first | refine z01 ?_ ?_ | refine z00 ?_ ?_) <;> intro hc <;> (try simp only [push_cast] at hc)) | ((with_reducible first | refine eK hV ?_ | refine eQ hV ?_ | refine eG hV ?_)) | ((with_reducible first | refine cK hV ?_ | refine cQ hV ?_ | refine cG hV ?_); (simp (disch := omega) only [push_cast, ↓zz, seval, hP, hpm]); (fail_if_success (with_reducible change False))) | omega | with_reducible intro _))
     all_goals
       rw [hI]
       first
         | rw [if_pos (by assumption)]
         | rw [if_neg (by simp [*])]
       (repeat' (first | (simp (disch := omega) only [push_cast, ↓zz, seval, z1f]) | omega | (with_reducible refine And.intro ?_ ?_)))
     all_goals trace_state
def z3y (t : Term) (gs : List (List Span)) : List Span × Bool :=
 if (z3x t gs).2 = false then ([], false) else if (z3x t gs).1.length = 0 then ([], true) else (z3i (imgL t.outer (z3x t gs).1) t.base, true)
theorem zwh (t : Term) (gs : List (List Span)) (h : z1n t.sum = true) : (z3x t gs).1.length ≤ 2147483649 := by
 unfold z3x
 repeat' split
 all_goals first | (simp; done) | skip
 unfold z0p
 have key : ∀ (pl : List Int) (out : List Span), Acc out → Acc (pl.foldl (z0s t.parts (gs.map symI)) out) := fun pl => by
   induction pl with
   | nil => exact fun out h => h
   | cons a pl ih => exact fun out h => ih _ (zpo _ _)
 exact (key _ _ (z2h h)).2
theorem zsf (t : Term) (gs : List (List Span)) (ht : t.parts.length < 1000000000000) (hg : ∀ g ∈ gs, g.length ≤ 1000000) (hl : gs.length ≤ 9223372036854775807) :
   PC Try.prog 68 [z1m t, z0b gs] (.tup [z03 (z3y t gs).1, .bool (z3y t gs).2]) := by
 have hP := z06 gs
 have hI := zse t gs ht hg hl
 have hO := z6a t
 have hlen : (z3x t gs).2 = true → (z3x t gs).1.length ≤ 2147483649 := fun h => by
   by_cases hs : z1n t.sum = true
   · exact zwh t gs hs
   · have : z1p t = false := by simp [z1p, hs]
     rw [z3x, if_pos (.inr this)] at h
     cases h
 refine z0t zki ?_
 unfold zbk
 rcases Bool.eq_false_or_eq_true (z3x t gs).2 with h2 | h2
 · have hl2 := hlen h2
   have hA := zit t.outer (z3x t gs).1
   have hM := zgi t.outer (z3x t gs).1 (by omega)
   have hV := zwa (imgL t.outer (z3x t gs).1) t.base (by have := hA.2; omega)
   (repeat' (first | (simp (disch := omega) only [push_cast, ↓zz, seval, hP, h2]) | (with_reducible first | refine And.intro ?_ ?_ | (first | refine z01 ?_ ?_ | refine z00 ?_ ?_) <;> intro hc <;> (try simp only [push_cast] at hc)) | ((with_reducible first | refine eK hI ?_ | refine eQ hI ?_ | refine eG hI ?_)) | ((with_reducible first | refine eK hO ?_ | refine eQ hO ?_ | refine eG hO ?_)) | ((with_reducible first | refine eK hM ?_ | refine eQ hM ?_ | refine eG hM ?_)) | ((with_reducible first | refine eK hV ?_ | refine eQ hV ?_ | refine eG hV ?_)) | ((with_reducible first | refine cK hI ?_ | refine cQ hI ?_ | refine cG hI ?_); (simp (disch := omega) only [push_cast, ↓zz, seval, hP, h2]); (fail_if_success (with_reducible change False))) | ((with_reducible first | refine cK hO ?_ | refine cQ hO ?_ | refine cG hO ?_); (simp (disch := omega) only [push_cast, ↓zz, seval, hP, h2]); (fail_if_success (with_reducible change False))) | ((with_reducible first | refine cK hM ?_ | refine cQ hM ?_ | refine cG hM ?_); (simp (disch := omega) only [push_cast, ↓zz, seval, hP, h2]); (fail_if_success (with_reducible change False))) | ((with_reducible first | refine cK hV ?_ | refine cQ hV ?_ | refine cG hV ?_); (simp (disch := omega) only [push_cast, ↓zz, seval, hP, h2]); (fail_if_success (with_reducible change False))) | omega | with_reducible intro _))
   all_goals
     rw [z3y, if_neg (by simp [h2])]
     first
       | rw [if_pos (by omega)]
       | rw [if_neg (by omega)]
     (repeat' (first | (simp (disch := omega) only [push_cast, ↓zz, seval, z1f]) | omega | (with_reducible refine And.intro ?_ ?_)))
 · (repeat' (first | (simp (disch := omega) only [push_cast, ↓zz, seval, hP, h2]) | (with_reducible first | refine And.intro ?_ ?_ | (first | refine z01 ?_ ?_ | refine z00 ?_ ?_) <;> intro hc <;> (try simp only [push_cast] at hc)) | ((with_reducible first | refine eK hI ?_ | refine eQ hI ?_ | refine eG hI ?_)) | ((with_reducible first | refine cK hI ?_ | refine cQ hI ?_ | refine cG hI ?_); (simp (disch := omega) only [push_cast, ↓zz, seval, hP, h2]); (fail_if_success (with_reducible change False))) | omega | with_reducible intro _))
   all_goals
     rw [z3y, if_pos h2]
     (repeat' (first | (simp (disch := omega) only [push_cast, ↓zz, seval, z1f]) | omega | (with_reducible refine And.intro ?_ ?_)))
def zc4 (t : Term) (i o : Int) (gs : List (List Span)) : Bool := z4e t i o gs.length && ((z3y t gs).2 && decide (z41 (z3y t gs).1 (domL o) = []))
theorem zwi (t : Term) (gs : List (List Span)) : (z3y t gs).1.length ≤ 2147483649 := by
 unfold z3y
 repeat' split
 all_goals first | (simp; done) | skip
 have h1 := (zit t.outer (z3x t gs).1).2
 have h2 := y0x (imgL t.outer (z3x t gs).1) t.base
 simp only
 omega
theorem ziu (s : Int) : (domL s).length ≤ 2 := by unfold domL; split <;> (try split) <;> simp
theorem zwj (t : Term) (i o : Int) (gs : List (List Span)) (ht : t.parts.length < 1000000000000) (hg : ∀ g ∈ gs, g.length ≤ 1000000) (hl : gs.length ≤ 9223372036854775807) :
   PC Try.prog 52 [z1m t, .int .i64 i, .int .i64 o, z0b gs] (.bool (zc4 t i o gs)) := by
 have hP := z06 gs
 have hR := zrj t i o gs.length ht
 have hI := zsf t gs ht hg hl
 have hD := z3e o
 have hW := ze2 (z3y t gs).1 (domL o) (by have := zwi t gs; omega) (by have := ziu o; omega)
 refine z0t zmj ?_
 unfold zd8 zc4
 (repeat' (first | (simp (disch := omega) only [push_cast, ↓zz, seval, hP]) | (with_reducible first | refine And.intro ?_ ?_ | (first | refine z01 ?_ ?_ | refine z00 ?_ ?_) <;> intro hc <;> (try simp only [push_cast] at hc)) | ((with_reducible first | refine eK hR ?_ | refine eQ hR ?_ | refine eG hR ?_)) | ((with_reducible first | refine eK hI ?_ | refine eQ hI ?_ | refine eG hI ?_)) | ((with_reducible first | refine eK hD ?_ | refine eQ hD ?_ | refine eG hD ?_)) | ((with_reducible first | refine eK hW ?_ | refine eQ hW ?_ | refine eG hW ?_)) | ((with_reducible first | refine cK hR ?_ | refine cQ hR ?_ | refine cG hR ?_); (simp (disch := omega) only [push_cast, ↓zz, seval, hP]); (fail_if_success (with_reducible change False))) | ((with_reducible first | refine cK hI ?_ | refine cQ hI ?_ | refine cG hI ?_); (simp (disch := omega) only [push_cast, ↓zz, seval, hP]); (fail_if_success (with_reducible change False))) | ((with_reducible first | refine cK hD ?_ | refine cQ hD ?_ | refine cG hD ?_); (simp (disch := omega) only [push_cast, ↓zz, seval, hP]); (fail_if_success (with_reducible change False))) | ((with_reducible first | refine cK hW ?_ | refine cQ hW ?_ | refine cG hW ?_); (simp (disch := omega) only [push_cast, ↓zz, seval, hP]); (fail_if_success (with_reducible change False))) | omega | with_reducible intro _))
 all_goals simp only [*, Bool.true_and, Bool.false_and]
def zbz : Int → List Span → Bool
 | _, [] => true
 | last, s :: l => decide (s.lo ≤ s.hi ∧ -1073741824 ≤ s.lo ∧ s.hi ≤ 1073741824 ∧ last + 1 < s.lo) && zbz s.hi l
def zeb (g : List Span) : Bool := zbz (-1073741826) g
theorem zsg (g : List Span) (hl : g.length ≤ 9223372036854775807) : PC Try.prog 50 [z03 g] (.bool (zeb g)) := by
 refine z0t zka ?_
 unfold zbc
 (repeat' (first | (simp (disch := omega) only [push_cast, ↓zz, seval]) | (with_reducible first | refine And.intro ?_ ?_ | (first | refine z01 ?_ ?_ | refine z00 ?_ ?_) <;> intro hc <;> (try simp only [push_cast] at hc)) | omega | with_reducible intro _))
 refine z0i (z0j (fun (s : Nat × Int) => s.1 ≤ g.length ∧ zeb g = zbz s.2 (g.drop s.1) ∧ -1073741826 ≤ s.2 ∧ s.2 ≤ 1073741824) (fun s => g.length - s.1)
   (fun s => [(3, .int .i64 s.2), (6, z03 g), (7, .int .i64 g.length), (8, .int .i64 s.1)]) (fun s => []) (fun _ _ => []) (0, -1073741826) ⟨by simp, rfl, by simp, by simp⟩ ?_ ?_)
 · (repeat' (first | (simp (disch := omega) only [push_cast, ↓zz, seval]) | (with_reducible first | refine And.intro ?_ ?_ | (first | refine z01 ?_ ?_ | refine z00 ?_ ?_) <;> intro hc <;> (try simp only [push_cast] at hc)) | omega | with_reducible intro _))
 rintro ⟨k, last⟩ ⟨h1, h2, h3, h4⟩
 simp only at h1 h2 h3 h4
 rcases Nat.lt_or_ge k g.length with hk | hk
 · rw [drop_at hk, zbz] at h2
   generalize hxe : nth g k = x at *
   have hw : IntKind.i64.wrap (last + 1) = last + 1 := IntWalk.i64_in _ (by omega)
   refine W_T ?_
   (repeat' (first | (simp (disch := omega) only [push_cast, ↓zz, seval, hw, hxe]) | (with_reducible first | refine And.intro ?_ ?_ | (first | refine z01 ?_ ?_ | refine z00 ?_ ?_) <;> intro hc <;> (try simp only [push_cast] at hc)) | omega | with_reducible intro _))
   all_goals first
     | (rw [h2, decide_eq_false (by omega), Bool.false_and]; done)
     | exact ⟨(k + 1, x.hi), ⟨rfl, by push_cast⟩, ⟨by simp only; omega, by rw [h2, decide_eq_true (by omega), Bool.true_and], by simp only; omega, by simp only; omega⟩, by simp only; omega⟩
 · rw [List.drop_of_length_le hk, zbz] at h2
   refine W_T ?_
   (repeat' (first | (simp (disch := omega) only [push_cast, ↓zz, seval, h2]) | (with_reducible first | refine And.intro ?_ ?_ | (first | refine z01 ?_ ?_ | refine z00 ?_ ?_) <;> intro hc <;> (try simp only [push_cast] at hc)) | omega | with_reducible intro _))
   all_goals trace_state
def z7j (i : Int) (g : List Span) : Bool := !decide ((g.length : Int) = 0) && (decide ((g.length : Int) ≤ 64) && (zeb g && decide (z41 g (domL i) = [])))
def z2l (i : Int) (gs : List (List Span)) : Bool := decide ((gs.length : Int) ≤ 4) && gs.all (z7j i)
theorem zec (i : Int) (gs : List (List Span)) : PC Try.prog 32 [.int .i64 i, z0b gs] (.bool (z2l i gs)) := by
 have hP := z06 gs
 have hD := z3e i
 have hdl := ziu i
 refine z0t zhr ?_
 unfold z9k
 by_cases h4 : 4 < gs.length
 · rw [z2l, decide_eq_false (by omega), Bool.false_and]
   (repeat' (first | (simp (disch := omega) only [push_cast, ↓zz, seval]) | (with_reducible first | refine And.intro ?_ ?_ | (first | refine z01 ?_ ?_ | refine z00 ?_ ?_) <;> intro hc <;> (try simp only [push_cast] at hc)) | omega | with_reducible intro _))
 rw [z2l, decide_eq_true (by omega), Bool.true_and]
 (repeat' (first | (simp (disch := omega) only [push_cast, ↓zz, seval]) | (with_reducible first | refine And.intro ?_ ?_ | (first | refine z01 ?_ ?_ | refine z00 ?_ ?_) <;> intro hc <;> (try simp only [push_cast] at hc)) | ((with_reducible first | refine eK hD ?_ | refine eQ hD ?_ | refine eG hD ?_)) | ((with_reducible first | refine cK hD ?_ | refine cQ hD ?_ | refine cG hD ?_); (simp (disch := omega) only [push_cast, ↓zz, seval]); (fail_if_success (with_reducible change False))) | omega | with_reducible intro _))
 refine z0i (z0j (fun (k : Nat) => k ≤ gs.length ∧ gs.all (z7j i) = (gs.drop k).all (z7j i)) (fun k => gs.length - k)
   (fun k => [(5, z03 (domL i)), (13, z0b gs), (14, .int .i64 gs.length), (15, .int .i64 k)]) (fun s => []) (fun _ _ => []) 0 ⟨by simp, rfl⟩ ?_ ?_)
 · (repeat' (first | (simp (disch := omega) only [push_cast, ↓zz, seval, hP]) | (with_reducible first | refine And.intro ?_ ?_ | (first | refine z01 ?_ ?_ | refine z00 ?_ ?_) <;> intro hc <;> (try simp only [push_cast] at hc)) | omega | with_reducible intro _))
 rintro k ⟨h1, h2⟩
 rcases Nat.lt_or_ge k gs.length with hk | hk
 · rw [drop_at hk, List.all_cons, z7j] at h2
   generalize hge : nth gs k = g at *
   refine W_T ?_
   by_cases hl : (g.length : Int) = 0
   · rw [decide_eq_true hl, Bool.not_true, Bool.false_and, Bool.false_and] at h2
     (repeat' (first | (simp (disch := omega) only [push_cast, ↓zz, seval, hP, hge, h2]) | (with_reducible first | refine And.intro ?_ ?_ | (first | refine z01 ?_ ?_ | refine z00 ?_ ?_) <;> intro hc <;> (try simp only [push_cast] at hc)) | omega | with_reducible intro _))
   by_cases hl2 : (g.length : Int) ≤ 64
   · rw [decide_eq_false hl, decide_eq_true hl2, Bool.not_false, Bool.true_and, Bool.true_and] at h2
     have hW := ze2 g (domL i) (by omega) (by omega)
     have hC := zsg g (by omega)
     (repeat' (first | (simp (disch := omega) only [push_cast, ↓zz, seval, hP, hge]) | (with_reducible first | refine And.intro ?_ ?_ | (first | refine z01 ?_ ?_ | refine z00 ?_ ?_) <;> intro hc <;> (try simp only [push_cast] at hc)) | ((with_reducible first | refine eK hC ?_ | refine eQ hC ?_ | refine eG hC ?_)) | ((with_reducible first | refine eK hW ?_ | refine eQ hW ?_ | refine eG hW ?_)) | ((with_reducible first | refine cK hC ?_ | refine cQ hC ?_ | refine cG hC ?_); (simp (disch := omega) only [push_cast, ↓zz, seval, hP, hge]); (fail_if_success (with_reducible change False))) | ((with_reducible first | refine cK hW ?_ | refine cQ hW ?_ | refine cG hW ?_); (simp (disch := omega) only [push_cast, ↓zz, seval, hP, hge]); (fail_if_success (with_reducible change False))) | omega | with_reducible intro _))
     all_goals first
       | (rw [h2]; simp [*]; done)
       | exact ⟨k + 1, by push_cast, ⟨by omega, by rw [h2]; simp [*]⟩, by omega⟩
   · rw [decide_eq_false hl2, Bool.false_and, Bool.and_false, Bool.false_and] at h2
     (repeat' (first | (simp (disch := omega) only [push_cast, ↓zz, seval, hP, hge, h2]) | (with_reducible first | refine And.intro ?_ ?_ | (first | refine z01 ?_ ?_ | refine z00 ?_ ?_) <;> intro hc <;> (try simp only [push_cast] at hc)) | omega | with_reducible intro _))
 · rw [List.drop_of_length_le hk, List.all_nil] at h2
   refine W_T ?_
   (repeat' (first | (simp (disch := omega) only [push_cast, ↓zz, seval, hP, h2]) | (with_reducible first | refine And.intro ?_ ?_ | (first | refine z01 ?_ ?_ | refine z00 ?_ ?_) <;> intro hc <;> (try simp only [push_cast] at hc)) | omega | with_reducible intro _))
   all_goals trace_state
def z5o (d : Desc) (s : Int) : Bool := decide (0 ≤ s) && decide (s < d.states)
theorem z85 (d : Desc) (s : Int) : PC Try.prog 31 [z1y d, .int .i64 s] (.bool (z5o d s)) := by
 refine z0t zk7 ?_
 unfold zb9 z5o
 (repeat' (first | (simp (disch := omega) only [push_cast, ↓zz, seval]) | (with_reducible first | refine And.intro ?_ ?_ | (first | refine z01 ?_ ?_ | refine z00 ?_ ?_) <;> intro hc <;> (try simp only [push_cast] at hc)) | omega | with_reducible intro _))
 all_goals simp only [*, decide_true, decide_false, Bool.true_and, Bool.false_and]
def zed (d : Desc) : Bool := decide (0 < ((domL d.in_).length : Int)) && (decide (0 < ((domL d.out).length : Int)) && (decide (1 ≤ d.states) && (decide (d.states ≤ 1024) && (z5o d d.start && (decide ((d.rules.length : Int) ≤ 4096) && decide ((d.finals.length : Int) ≤ 4096))))))
theorem zwk (d : Desc) : PC Try.prog 29 [z1y d] (.bool (zed d)) := by
 have h1 := z3e d.in_
 have h2 := z3e d.out
 have h3 := z85 d d.start
 refine z0t zmg ?_
 unfold zd5 zed
 (repeat' (first | (simp (disch := omega) only [push_cast, ↓zz, seval]) | (with_reducible first | refine And.intro ?_ ?_ | (first | refine z01 ?_ ?_ | refine z00 ?_ ?_) <;> intro hc <;> (try simp only [push_cast] at hc)) | ((with_reducible first | refine eK h1 ?_ | refine eQ h1 ?_ | refine eG h1 ?_)) | ((with_reducible first | refine eK h2 ?_ | refine eQ h2 ?_ | refine eG h2 ?_)) | ((with_reducible first | refine eK h3 ?_ | refine eQ h3 ?_ | refine eG h3 ?_)) | ((with_reducible first | refine cK h1 ?_ | refine cQ h1 ?_ | refine cG h1 ?_); (simp (disch := omega) only [push_cast, ↓zz, seval]); (fail_if_success (with_reducible change False))) | ((with_reducible first | refine cK h2 ?_ | refine cQ h2 ?_ | refine cG h2 ?_); (simp (disch := omega) only [push_cast, ↓zz, seval]); (fail_if_success (with_reducible change False))) | ((with_reducible first | refine cK h3 ?_ | refine cQ h3 ?_ | refine cG h3 ?_); (simp (disch := omega) only [push_cast, ↓zz, seval]); (fail_if_success (with_reducible change False))) | omega | with_reducible intro _))
 all_goals simp only [*, decide_true, decide_false, Bool.true_and, Bool.false_and]
 all_goals trace_state
def z2q (d : Desc) (out : List Term) (gs : List (List Span)) : Bool := decide ((out.length : Int) ≤ 64) && out.all fun t => zc4 t d.in_ d.out gs
theorem zee (d : Desc) (out : List Term) (gs : List (List Span)) (ho : ∀ t ∈ out, t.parts.length < 1000000000000) (hg : ∀ g ∈ gs, g.length ≤ 1000000) (hl : gs.length ≤ 9223372036854775807) :
   PC Try.prog 33 [z1y d, z4d out, z0b gs] (.bool (z2q d out gs)) := by
 have hP := z06 gs
 have hT := z0w out
 refine z0t zhs ?_
 unfold z9l
 by_cases h4 : 64 < out.length
 · rw [z2q, decide_eq_false (by omega), Bool.false_and]
   (repeat' (first | (simp (disch := omega) only [push_cast, ↓zz, seval]) | (with_reducible first | refine And.intro ?_ ?_ | (first | refine z01 ?_ ?_ | refine z00 ?_ ?_) <;> intro hc <;> (try simp only [push_cast] at hc)) | omega | with_reducible intro _))
 rw [z2q, decide_eq_true (by omega), Bool.true_and]
 (repeat' (first | (simp (disch := omega) only [push_cast, ↓zz, seval]) | (with_reducible first | refine And.intro ?_ ?_ | (first | refine z01 ?_ ?_ | refine z00 ?_ ?_) <;> intro hc <;> (try simp only [push_cast] at hc)) | omega | with_reducible intro _))
 refine z0i (z0j (fun (k : Nat) => k ≤ out.length ∧ (out.all fun t => zc4 t d.in_ d.out gs) = (out.drop k).all fun t => zc4 t d.in_ d.out gs) (fun k => out.length - k)
   (fun k => [(2, z0b gs), (3, .ptr 0 1 0 0), (12, z4d out), (13, .int .i64 out.length), (14, .int .i64 k)]) (fun s => [⟨6, 1, true, [z1y d]⟩]) (fun env _ => [z0r 1 (env 3)]) 0 ⟨by simp, rfl⟩ ?_ ?_)
 · (repeat' (first | (simp (disch := omega) only [push_cast, ↓zz, seval, hP, hT]) | (with_reducible first | refine And.intro ?_ ?_ | (first | refine z01 ?_ ?_ | refine z00 ?_ ?_) <;> intro hc <;> (try simp only [push_cast] at hc)) | omega | with_reducible intro _))
 rintro k ⟨h1, h2⟩
 rcases Nat.lt_or_ge k out.length with hk | hk
 · rw [drop_at hk, List.all_cons] at h2
   have hF := zwj (nth out k) d.in_ d.out gs (ho _ (z0k hk)) hg hl
   refine W_T ?_
   (repeat' (first | (simp (disch := omega) only [push_cast, ↓zz, seval, hP, hT]) | (with_reducible first | refine And.intro ?_ ?_ | (first | refine z01 ?_ ?_ | refine z00 ?_ ?_) <;> intro hc <;> (try simp only [push_cast] at hc)) | ((with_reducible first | refine eK hF ?_ | refine eQ hF ?_ | refine eG hF ?_)) | ((with_reducible first | refine cK hF ?_ | refine cQ hF ?_ | refine cG hF ?_); (simp (disch := omega) only [push_cast, ↓zz, seval, hP, hT]); (fail_if_success (with_reducible change False))) | omega | with_reducible intro _))
   all_goals first
     | (rw [h2]; simp [*]; done)
     | exact ⟨k + 1, by push_cast, ⟨by omega, by rw [h2]; simp [*]⟩, by omega⟩
 · rw [List.drop_of_length_le hk, List.all_nil] at h2
   refine W_T ?_
   (repeat' (first | (simp (disch := omega) only [push_cast, ↓zz, seval, hP, hT, h2]) | (with_reducible first | refine And.intro ?_ ?_ | (first | refine z01 ?_ ?_ | refine z00 ?_ ?_) <;> intro hc <;> (try simp only [push_cast] at hc)) | omega | with_reducible intro _))
   all_goals trace_state
def eatB (n e : Int) : Bool := !decide (e < min n 1) && !decide (n < e)
def z4j (d : Desc) (r : Rule) : Bool := z5o d r.from_ && (z5o d r.to_ && (z2l d.in_ r.guards && (eatB r.guards.length r.eat && z2q d r.out r.guards)))
theorem z4x {i : Int} {gs : List (List Span)} (h : z2l i gs = true) : gs.length ≤ 4 ∧ ∀ g ∈ gs, g.length ≤ 64 := by
 simp only [z2l, Bool.and_eq_true, decide_eq_true_eq] at h
 refine ⟨by omega, fun g hg => ?_⟩
 have := List.all_eq_true.1 h.2 g hg
 simp only [z7j, Bool.and_eq_true, decide_eq_true_eq] at this
 omega
theorem zwl (d : Desc) (r : Rule) (ho : ∀ t ∈ r.out, t.parts.length < 1000000000000) : PC Try.prog 30 [z1y d, z5w r] (.bool (z4j d r)) := by
 have h1 := z85 d r.from_
 have h2 := z85 d r.to_
 have h3 := zec d.in_ r.guards
 have hP := z06 r.guards
 have hT := z0w r.out
 refine z0t zmh ?_
 unfold zd6 z4j eatB
 cases hg : z2l d.in_ r.guards with
 | false =>
   rw [hg] at h3
   (repeat' (first | (simp (disch := omega) only [push_cast, ↓zz, seval, hP, hT]) | (with_reducible first | refine And.intro ?_ ?_ | (first | refine z01 ?_ ?_ | refine z00 ?_ ?_) <;> intro hc <;> (try simp only [push_cast] at hc)) | ((with_reducible first | refine eK h1 ?_ | refine eQ h1 ?_ | refine eG h1 ?_)) | ((with_reducible first | refine eK h2 ?_ | refine eQ h2 ?_ | refine eG h2 ?_)) | ((with_reducible first | refine eK h3 ?_ | refine eQ h3 ?_ | refine eG h3 ?_)) | ((with_reducible first | refine cK h1 ?_ | refine cQ h1 ?_ | refine cG h1 ?_); (simp (disch := omega) only [push_cast, ↓zz, seval, hP, hT]); (fail_if_success (with_reducible change False))) | ((with_reducible first | refine cK h2 ?_ | refine cQ h2 ?_ | refine cG h2 ?_); (simp (disch := omega) only [push_cast, ↓zz, seval, hP, hT]); (fail_if_success (with_reducible change False))) | ((with_reducible first | refine cK h3 ?_ | refine cQ h3 ?_ | refine cG h3 ?_); (simp (disch := omega) only [push_cast, ↓zz, seval, hP, hT]); (fail_if_success (with_reducible change False))) | omega | with_reducible intro _))
   all_goals simp only [*, decide_true, decide_false, Bool.true_and, Bool.false_and, Bool.and_false]
 | true =>
   rw [hg] at h3
   obtain ⟨g1, g2⟩ := z4x hg
   have h4 := zee d r.out r.guards ho (fun g hg => by have := g2 g hg; omega) (by omega)
   (repeat' (first | (simp (disch := omega) only [push_cast, ↓zz, seval, hP, hT]) | (with_reducible first | refine And.intro ?_ ?_ | (first | refine z01 ?_ ?_ | refine z00 ?_ ?_) <;> intro hc <;> (try simp only [push_cast] at hc)) | ((with_reducible first | refine eK h1 ?_ | refine eQ h1 ?_ | refine eG h1 ?_)) | ((with_reducible first | refine eK h2 ?_ | refine eQ h2 ?_ | refine eG h2 ?_)) | ((with_reducible first | refine eK h3 ?_ | refine eQ h3 ?_ | refine eG h3 ?_)) | ((with_reducible first | refine eK h4 ?_ | refine eQ h4 ?_ | refine eG h4 ?_)) | ((with_reducible first | refine cK h1 ?_ | refine cQ h1 ?_ | refine cG h1 ?_); (simp (disch := omega) only [push_cast, ↓zz, seval, hP, hT]); (fail_if_success (with_reducible change False))) | ((with_reducible first | refine cK h2 ?_ | refine cQ h2 ?_ | refine cG h2 ?_); (simp (disch := omega) only [push_cast, ↓zz, seval, hP, hT]); (fail_if_success (with_reducible change False))) | ((with_reducible first | refine cK h3 ?_ | refine cQ h3 ?_ | refine cG h3 ?_); (simp (disch := omega) only [push_cast, ↓zz, seval, hP, hT]); (fail_if_success (with_reducible change False))) | ((with_reducible first | refine cK h4 ?_ | refine cQ h4 ?_ | refine cG h4 ?_); (simp (disch := omega) only [push_cast, ↓zz, seval, hP, hT]); (fail_if_success (with_reducible change False))) | omega | with_reducible intro _))
   all_goals simp only [*, decide_true, decide_false, Bool.true_and, Bool.false_and, Bool.and_false, Bool.not_true, Bool.not_false, Bool.and_true]
   all_goals trace_state
abbrev znl (v : Nat) (l : List Int) : Grp := ⟨1, v, l.isEmpty, l.map (AV.int .i64)⟩
def famF (n : Nat) (V : Nat → Nat) (D : Nat → List Int) : List Grp := (List.range n).map fun i => znl (V i) (D i)
def famT (n : Nat) (V : Nat → Nat) (D : Nat → List Int) : List AV := (List.range n).map fun i => AV.ref (i + 3) (V i) 0 (D i).length
def famI (n : Nat) (f : Nat → Int) : List AV := (List.range n).map fun i => AV.int .i64 (f i)
theorem z58 {α : Type} {n i : Nat} {f : Nat → α} {x : α} (h : i < n) : ((List.range n).map f).set i x = (List.range n).map fun j => if j = i then x else f j := by
 refine List.ext_getElem (by simp) fun j h1 h2 => ?_
 simp only [List.length_set, List.length_map, List.length_range] at h1
 simp only [List.getElem_set, List.getElem_map, List.getElem_range]
 by_cases e : i = j
 · rw [if_pos e, if_pos e.symm]
 · rw [if_neg e, if_neg fun h => e h.symm]
theorem z2v {α : Type} {n i : Nat} {f : Nat → α} {z : α} (h : i < n) : ((List.range n).map f).getD i z = f i := by simp [List.getD, h]
theorem zef {ks : List Nat} {G : Grp} : ∀ {l : List Grp} {p i : Nat}, p + i ∈ ks → z3r p ks l (l.set i G)
 | [], p, i, h => trivial
 | a :: l, p, 0, h => ⟨.inl h, sameBut_refl⟩
 | a :: l, p, i + 1, h => ⟨.inr rfl, zef (by rwa [show p + 1 + i = p + (i + 1) by omega])⟩
where sameBut_refl {ks : List Nat} : ∀ {l : List Grp} {p : Nat}, z3r p ks l l
 | [], p => trivial
 | a :: l, p => ⟨.inr rfl, sameBut_refl⟩
theorem zpr : ∀ (l : List Grp) (G G' : Grp), setQ (l ++ [G]) l.length G' = some (l ++ [G'])
 | [], _, _ => rfl
 | a :: l, G, G' => by rw [List.cons_append, List.length_cons, setQ, zpr l G G']; rfl
theorem zps : ∀ (l : List Grp) (G G' : Grp) {i : Nat}, i < l.length → setQ (l ++ [G]) i G' = some (l.set i G' ++ [G])
 | [], _, _, i, h => by simp at h
 | a :: l, G, G', 0, h => rfl
 | a :: l, G, G', i + 1, h => by rw [List.cons_append, setQ, zps l G G' (by simpa using h)]; rfl
def setV (V : Nat → Nat) (i v : Nat) (j : Nat) : Nat := if j = i then v else V j
structure y9z (d : Desc) : Prop where
 st : 1 ≤ d.states ∧ d.states ≤ 1024
 len : d.rules.length ≤ 4096
 rul : ∀ r ∈ d.rules, (0 ≤ r.from_ ∧ r.from_ < d.states) ∧ 0 ≤ r.to_ ∧ r.to_ < d.states
def zeg (d : Desc) (k : Nat) : Env := z3t [(1, .ptr 0 1 0 0), (3, .ref 1 1 0 d.states.toNat), (4, .ref 2 1 0 d.states.toNat), (21, z3j d.rules), (22, .int .i64 d.rules.length), (23, .int .i64 k)]
def z2r (d : Desc) (k : Nat) (V : Nat → Nat) : z02 := Abs.hl (⟨6, 1, true, [z1y d]⟩ :: ⟨1, 1, true, famT d.states.toNat V (toD (d.rules.take k))⟩ :: ⟨1, 1, true, famI d.states.toNat (inD (d.rules.take k))⟩ :: famF d.states.toNat V (toD (d.rules.take k)))
def cycL (d : Desc) (k : Nat) (V : Nat → Nat) : List Grp := ⟨6, 1, true, [z1y d]⟩ :: ⟨1, 1, true, famT d.states.toNat V (toD (d.rules.take k))⟩ :: ⟨1, 1, true, famI d.states.toNat (inD (d.rules.take k))⟩ :: famF d.states.toNat V (toD (d.rules.take k))
theorem zgj (d : Desc) (k : Nat) (V : Nat → Nat) : z2r d k V = Abs.hl (cycL d k V) := rfl
theorem ziv (d : Desc) (k : Nat) (V : Nat → Nat) : (cycL d k V).length = d.states.toNat + 3 := by simp [cycL, famF]
theorem zaz (d : Desc) : (z1y d).pure = true := by simp [z1y, AV.pure, z0l, z1h, z1v]
theorem znm (d : Desc) (k : Nat) (V : Nat → Nat) : ∀ G ∈ cycL d k V, ltL (cycL d k V).length G.xs := fun G hG => by
 rw [ziv]
 simp only [cycL, List.mem_cons] at hG
 rcases hG with rfl | rfl | rfl | hG
 · exact z4t _ _ (by simp [z0l, zaz])
 · have key : ∀ (l : List Nat), (∀ i ∈ l, i < d.states.toNat) → ltL (d.states.toNat + 3) (l.map fun i => AV.ref (i + 3) (V i) 0 (toD (d.rules.take k) i).length) := fun l => by
     induction l with
     | nil => exact fun _ => trivial
     | cons i l ih =>
       intro h
       exact ⟨by have := h i (by simp); show i + 3 < _; omega, ih fun j hj => h j (by simp [hj])⟩
   exact key _ fun i hi => by simpa using hi
 · exact z4t _ _ (z2i.2 fun x hx => by
     obtain ⟨i, _, rfl⟩ := List.mem_map.1 hx
     rfl)
 · obtain ⟨i, _, rfl⟩ := List.mem_map.1 hG
   exact z4t _ _ (z4h .i64 _)
theorem zwm {d : Desc} {k : Nat} {V : Nat → Nat} {env : Env} {l gar : List Grp} (hn : 1 ≤ d.states) (hl' : l = cycL d k V ++ gar)
   (h1 : env 1 = .ptr 0 1 0 0) (h3 : env 3 = .ref 1 1 0 d.states.toNat) (h4 : env 4 = .ref 2 1 0 d.states.toNat) (h21 : env 21 = z3j d.rules) (h22 : env 22 = .int .i64 d.rules.length) (h23 : env 23 = .int .i64 k) :
   Ent 105 0 env (Abs.hl l) (zeg d k) (z2r d k V) := by
 rw [hl', zgj]
 refine (zid [(1, .ptr 0 1 0 0), (3, .ref 1 1 0 d.states.toNat), (4, .ref 2 1 0 d.states.toNat), (21, z3j d.rules), (22, .int .i64 d.rules.length), (23, .int .i64 k)] (fun p hp => ?_)).trans (zvw (by omega) (znm d k V) fun i _ => ?_)
 · simp only [List.mem_cons, List.not_mem_nil, or_false] at hp
   rcases hp with rfl | rfl | rfl | rfl | rfl | rfl <;> assumption
 · rw [ziv]
   have hr : ltV (d.states.toNat + 3) (z3j d.rules) := zva _ _ (by simp [z3j, AV.pure, z1h])
   simp only [z3t]
   repeat' split
   all_goals first
     | exact hr
     | trivial
     | (show _ < _; omega)
theorem y18 {n i : Nat} {V : Nat → Nat} {D : Nat → List Int} {x : Int} (h : i < n) : (famT n V D).set i (.ref (i + 3) (V i + 1) 0 ((D i).length + 1)) = famT n (setV V i (V i + 1)) fun p => if p = i then D i ++ [x] else D p := by
 rw [famT, z58 h, famT]
 refine List.map_congr_left fun j _ => ?_
 by_cases e : j = i
 · subst e; simp [setV]
 · simp [setV, e]
theorem y19 {n i : Nat} {V : Nat → Nat} {D : Nat → List Int} {x : Int} (h : i < n) : (famF n V D).set i ⟨1, V i + 1, false, (D i).map (AV.int .i64) ++ [.int .i64 x]⟩ = famF n (setV V i (V i + 1)) fun p => if p = i then D i ++ [x] else D p := by
 rw [famF, z58 h, famF]
 refine List.map_congr_left fun j _ => ?_
 by_cases e : j = i
 · subst e; simp [setV, znl]
 · simp [setV, e]
theorem zpt {n j : Nat} {f : Nat → Int} {x : Int} (h : j < n) : (famI n f).set j (.int .i64 x) = famI n fun p => if p = j then x else f p := by
 rw [famI, z58 h, famI]
 refine List.map_congr_left fun p _ => ?_
 by_cases e : p = j
 · subst e; simp
 · simp [e]
theorem y1a {l : List Rule} {k i : Nat} (hk : k < l.length) (hi : (nth l k).from_ = i) (he : z3v (nth l k) = true) : toD (l.take (k + 1)) = fun p => if p = i then toD (l.take k) i ++ [(nth l k).to_] else toD (l.take k) p := by
 funext p
 rw [take_at hk]
 simp only [toD, List.filter_append, List.map_append, List.filter_cons, List.filter_nil, he, Bool.true_and, hi, decide_eq_true_eq]
 by_cases e : p = i
 · subst e; simp
 · rw [if_neg (by omega), if_neg e]; simp
theorem y1b {l : List Rule} {k j : Nat} (hk : k < l.length) (hj : (nth l k).to_ = j) (he : z3v (nth l k) = true) : inD (l.take (k + 1)) = fun p => if p = j then inD (l.take k) j + 1 else inD (l.take k) p := by
 funext p
 rw [take_at hk]
 simp only [inD, List.filter_append, List.length_append, List.filter_cons, List.filter_nil, he, Bool.true_and, hj, decide_eq_true_eq]
 by_cases e : p = j
 · subst e; simp
 · rw [if_neg (by omega), if_neg e]; simp
theorem y1c {l : List Rule} {k : Nat} (hk : k < l.length) (he : z3v (nth l k) = false) : toD (l.take (k + 1)) = toD (l.take k) ∧ inD (l.take (k + 1)) = inD (l.take k) := by
 rw [take_at hk]
 refine ⟨?_, ?_⟩ <;> funext p <;> simp [toD, inD, he]
theorem zwn (l : List Rule) (j : Nat) : 0 ≤ inD l j ∧ inD l j ≤ l.length := by
 have := List.length_filter_le (fun r => z3v r && decide (r.to_ = j)) l
 simp only [inD]; omega
theorem y2d (l : List Rule) (j : Nat) : (toD l j).length ≤ l.length := by
 have := List.length_filter_le (fun r => z3v r && decide (r.from_ = j)) l
 simp only [toD, List.length_map]; omega
theorem zeh (l0 : List Grp) : ∀ l : List Grp, z73 l0 l l
 | [] => trivial
 | G :: l => ⟨⟨rfl, rfl, id, z0n _ _⟩, zeh l0 l⟩
theorem y1d (n : Nat) : famF n (fun _ => 1) (toD []) = (List.replicate n 1).map z8t := by
 rw [List.map_replicate]
 refine List.ext_getElem (by simp [famF]) fun i h1 h2 => ?_
 simp only [famF, List.getElem_map, List.getElem_range, List.getElem_replicate]
 rfl
theorem y1e (n : Nat) : famI n (inD []) = List.replicate n (.int .i64 0) := by
 refine List.ext_getElem (by simp [famI]) fun i h1 h2 => ?_
 simp [famI, inD]
theorem zwo {l : List Grp} {n : Nat} (h : ∀ i, i < n → l.getD (i + 3) default = z8t 1 ∧ i + 3 < l.length) : leSL l (List.replicate n .nilS) (famT n (fun _ => 1) (toD [])) := by
 have key : ∀ idx : List Nat, (∀ i ∈ idx, i < n) → leSL l (List.replicate idx.length .nilS) (idx.map fun i => AV.ref (i + 3) 1 0 (toD [] i).length) := fun idx => by
   induction idx with
   | nil => exact fun _ => rfl
   | cons i idx ih =>
     intro hi
     obtain ⟨h1, h2⟩ := h i (hi i (by simp))
     refine ⟨?_, ih fun j hj => hi j (by simp [hj])⟩
     show 0 = 0 ∧ (toD [] i).length = 0 ∧ (l.getD (i + 3) default).ver = 1 ∧ 0 < (l.getD (i + 3) default).w ∧ (l.getD (i + 3) default).xs = [] ∧ (l.getD (i + 3) default).exact = true ∧ i + 3 < l.length
     rw [h1]
     exact ⟨rfl, rfl, rfl, by decide, rfl, rfl, h2⟩
 have := key (List.range n) fun i hi => by simpa using hi
 rwa [List.length_range] at this
theorem zwp {d : Desc} {env : Env} (h1 : env 1 = .ptr 0 1 0 0) (h3 : env 3 = .ref 1 1 0 d.states.toNat) (h4 : env 4 = .ref 2 1 0 d.states.toNat) (h21 : env 21 = z3j d.rules) (h22 : env 22 = .int .i64 d.rules.length) (h23 : env 23 = .int .i64 0) :
   Ent 105 0 env (Abs.hl [⟨6, 1, true, [z1y d]⟩, ⟨1, 1, true, List.replicate d.states.toNat .nilS⟩, ⟨1, 1, true, List.replicate d.states.toNat (.int .i64 0)⟩]) (zeg d 0) (z2r d 0 fun _ => 1) := by
 refine (zid [(1, .ptr 0 1 0 0), (3, .ref 1 1 0 d.states.toNat), (4, .ref 2 1 0 d.states.toNat), (21, z3j d.rules), (22, .int .i64 d.rules.length), (23, .int .i64 0)] (fun p hp => ?_)).trans
   ((y0b (List.replicate d.states.toNat 1) (fun w hw => by have := (List.mem_replicate.1 hw).2; omega)).trans (y9u ?_ fun i _ => zhm _ _))
 · simp only [List.mem_cons, List.not_mem_nil, or_false] at hp
   rcases hp with rfl | rfl | rfl | rfl | rfl | rfl <;> assumption
 · rw [List.take_zero, y1d, y1e]
   refine ⟨⟨rfl, rfl, id, z0n _ _⟩, ⟨rfl, rfl, id, zwo fun i hi => ?_⟩, ⟨rfl, rfl, id, z0n _ _⟩, zeh _ _⟩
   refine ⟨?_, by simp; omega⟩
   rw [List.map_replicate]
   simp [List.getD, hi]
def zwq (n : Nat) (D : Nat → List Int) : AV := .lst 1 ((List.range n).map fun i => z4l (D i))
theorem zwr {n b : Nat} {env : Env} {H H' : z02} (hn : H'.n = H.n) (h : ∀ g, g < H.n → H'.at_ g = H.at_ g) : Ent n b env H env H' := fun S val hb hS hv => ⟨S, rfl, .refl hb, hS.congr hn h, hv⟩
def zab (n : Nat) : List Nat := 1 :: (List.range n).map (· + 3)
theorem zll {n i : Nat} (h : i < n) : i + 3 ∈ zab n := List.mem_cons.2 (.inr (List.mem_map.2 ⟨i, List.mem_range.2 h, rfl⟩))
theorem y2e (d : Desc) (k : Nat) (V : Nat → Nat) {i : Nat} (hi : i < d.states.toNat) : (z2r d k V).at_ (i + 3) = znl (V i) (toD (d.rules.take k) i) := by
 rw [z2r, z2z]
 simp only [List.getD_cons_succ]
 exact z2v hi
theorem y6e (d : Desc) (k : Nat) (V : Nat → Nat) : z2j 2 ((z2r d k V).only (zab d.states.toNat)) (.ref 1 1 0 d.states.toNat) ∧ frzV 2 ((z2r d k V).only (zab d.states.toNat)) (.ref 1 1 0 d.states.toNat) = zwq d.states.toNat (toD (d.rules.take k)) := by
 have hat1 : ((z2r d k V).only (zab d.states.toNat)).at_ 1 = ⟨1, 1, true, famT d.states.toNat V (toD (d.rules.take k))⟩ := by
   show (if 1 ∈ zab d.states.toNat then (z2r d k V).at_ 1 else ((z2r d k V).at_ 1).dead) = _
   rw [if_pos (by simp [zab])]
   rfl
 have hat : ∀ i, i < d.states.toNat → ((z2r d k V).only (zab d.states.toNat)).at_ (i + 3) = znl (V i) (toD (d.rules.take k) i) := fun i hi => by
   show (if i + 3 ∈ zab d.states.toNat then (z2r d k V).at_ (i + 3) else ((z2r d k V).at_ (i + 3)).dead) = _
   rw [if_pos (zll hi)]
   exact y2e d k V hi
 have htl : (((famT d.states.toNat V (toD (d.rules.take k))).drop 0).take d.states.toNat) = famT d.states.toNat V (toD (d.rules.take k)) := by
   rw [List.drop_zero]; exact List.take_of_length_le (by simp [famT])
 constructor
 · refine ⟨by rw [hat1], by rw [hat1]; exact Nat.one_pos, by rw [hat1]; simp [famT], fun y hy => ?_⟩
   rw [hat1, htl] at hy
   obtain ⟨i, hi, rfl⟩ := List.mem_map.1 hy
   have hi' : i < d.states.toNat := by simpa using hi
   refine ⟨by rw [hat i hi'], by rw [hat i hi']; exact Nat.one_pos, by rw [hat i hi']; simp, fun z hz => ?_⟩
   rw [hat i hi'] at hz
   obtain ⟨u, _, rfl⟩ := List.mem_map.1 (List.mem_of_mem_drop (List.mem_of_mem_take hz))
   rfl
 · show AV.lst _ _ = _
   rw [hat1, htl, zwq, famT, List.map_map]
   congr 1
   refine List.map_congr_left fun i hi => ?_
   have hi' : i < d.states.toNat := by simpa using hi
   show AV.lst _ _ = _
   rw [hat i hi']
   have e : (((znl (V i) (toD (d.rules.take k) i)).xs.drop 0).take (toD (d.rules.take k) i).length).map (frzV 0 ((z2r d k V).only (zab d.states.toNat))) = (toD (d.rules.take k) i).map (AV.int .i64) := by
     rw [List.drop_zero, List.take_of_length_le (by simp [znl])]
     refine (List.map_congr_left fun x hx => ?_).trans (List.map_id _)
     obtain ⟨u, _, rfl⟩ := List.mem_map.1 hx
     rfl
   rw [e]
def z86 (d : Desc) (k : Nat) : List (Nat × AV) := [(1, .ptr 0 1 0 0), (3, zwq d.states.toNat (toD (d.rules.take k))), (4, .ref 2 1 0 d.states.toNat), (7, .nilS), (52, .ref 2 1 0 d.states.toNat), (53, .int .i64 d.states.toNat), (54, .int .i64 0)]
theorem zsh {d : Desc} {k : Nat} {V : Nat → Nat} {env : Env} (h1 : env 1 = .ptr 0 1 0 0) (h3 : env 3 = .ref 1 1 0 d.states.toNat) (h4 : env 4 = .ref 2 1 0 d.states.toNat) (h7 : env 7 = .nilS) (h52 : env 52 = .ref 2 1 0 d.states.toNat) (h53 : env 53 = .int .i64 d.states.toNat) (h54 : env 54 = .int .i64 0) :
   Ent 105 0 env (z2r d k V) (z3t (z86 d k)) (Abs.hl [⟨6, 1, true, [z1y d]⟩, ⟨0, 2, false, []⟩, ⟨1, 1, true, famI d.states.toNat (inD (d.rules.take k))⟩]) := by
 obtain ⟨f1, f2⟩ := y6e d k V
 rw [← h3] at f1 f2
 refine (y60 3 2 (zab d.states.toNat) f1).trans ((zid (z86 d k) fun p hp => ?_).trans ((zwr (H' := Abs.hl ([⟨6, 1, true, [z1y d]⟩, ⟨0, 2, false, []⟩, ⟨1, 1, true, famI d.states.toNat (inD (d.rules.take k))⟩] ++ (famF d.states.toNat V (toD (d.rules.take k))).map Grp.dead)) ?_ ?_).trans (zvw (by omega) ?_ ?_)))
 · rw [f2]
   simp only [z86, List.mem_cons, List.not_mem_nil, or_false] at hp
   rcases hp with rfl | rfl | rfl | rfl | rfl | rfl | rfl <;> first | rfl | assumption
 · simp [z2r, z02.kill, Abs.hl]
 · intro g hg
   show _ = if g ∈ zab d.states.toNat then ((z2r d k V).at_ g).dead else (z2r d k V).at_ g
   have hlen : (z2r d k V).n = d.states.toNat + 3 := ziv d k V
   have hg' : g < d.states.toNat + 3 := by rw [← hlen]; exact hg
   match g, hg' with
   | 0, _ => rw [if_neg (by simp [zab])]; rfl
   | 1, _ => rw [if_pos (by simp [zab])]; rfl
   | 2, _ => rw [if_neg (by simp [zab])]; rfl
   | i + 3, hi =>
     have hi' : i < d.states.toNat := by omega
     rw [if_pos (zll hi'), y2e d k V hi', z2z]
     simp only [List.cons_append, List.nil_append, List.getD_cons_succ, famF, List.map_map]
     exact z2v hi'
 · intro G hG
   simp only [List.mem_cons, List.not_mem_nil, or_false] at hG
   rcases hG with rfl | rfl | rfl
   · exact z4t _ _ (by simp [z0l, zaz])
   · trivial
   · exact z4t _ _ (z2i.2 fun x hx => by
       obtain ⟨i, _, rfl⟩ := List.mem_map.1 hx
       rfl)
 · intro i _
   have hd : ltV 3 (zwq d.states.toNat (toD (d.rules.take k))) := trivial
   simp only [z3t, z86]
   repeat' split
   all_goals first
     | exact hd
     | trivial
     | (show _ < _; simp)
theorem zsi (d : Desc) (hd : y9z d) : PC Try.prog 34 [z1y d] (.bool (@decide (cycP d.rules d.states.toNat) (Classical.propDecidable _))) := by
 obtain ⟨⟨hn1, hn2⟩, hlen, hrul⟩ := hd
 have hP := z1h d.rules
 refine z0t zk8 ?_
 unfold zba
 (repeat' (first | (simp (disch := omega) only [push_cast, ↓zz, seval]) | (with_reducible first | refine And.intro ?_ ?_ | (first | refine z01 ?_ ?_ | refine z00 ?_ ?_) <;> intro hc <;> (try simp only [push_cast] at hc)) | omega | with_reducible intro _))
 refine z0i (y5z (fun (s : Nat × (Nat → Nat)) => s.1 ≤ d.rules.length) (fun s => d.rules.length - s.1) (fun s => zeg d s.1) (fun s => z2r d s.1 s.2) (0, fun _ => 1) (by simp) ?_ ?_)
 · exact zwp rfl rfl rfl rfl rfl rfl
 rintro ⟨k, V⟩ hk
 simp only at hk ⊢
 rcases Nat.lt_or_ge k d.rules.length with hkl | hkl
 · have hr := hrul _ (z0k hkl)
   generalize hre : nth d.rules k = r at *
   have hgr := z06 r.guards
   have hot := z0w r.out
   obtain ⟨n, hn⟩ : ∃ n : Nat, d.states = n := ⟨d.states.toNat, by omega⟩
   obtain ⟨i, hi⟩ : ∃ i : Nat, r.from_ = i := ⟨r.from_.toNat, by omega⟩
   obtain ⟨j, hj⟩ : ∃ j : Nat, r.to_ = j := ⟨r.to_.toNat, by omega⟩
   have hin : i < n := by omega
   have hjn : j < n := by omega
   have hni : ¬ n = i := by omega
   have ee : zeg d k = z3t [(1, .ptr 0 1 0 0), (3, .ref 1 1 0 n), (4, .ref 2 1 0 n), (21, z3j d.rules), (22, .int .i64 d.rules.length), (23, .int .i64 k)] := by simp only [zeg, hn, Int.toNat_natCast]
   have eh : z2r d k V = Abs.hl (⟨6, 1, true, [z1y d]⟩ :: ⟨1, 1, true, famT n V (toD (d.rules.take k))⟩ :: ⟨1, 1, true, famI n (inD (d.rules.take k))⟩ :: famF n V (toD (d.rules.take k))) := by simp only [z2r, hn, Int.toNat_natCast]
   rw [ee, eh]
   clear ee eh
   have hFl : (famF n V (toD (d.rules.take k))).length = n := by simp [famF]
   have hTl : (famT n V (toD (d.rules.take k))).length = n := by simp [famT]
   have hIl : (famI n (inD (d.rules.take k))).length = n := by simp [famI]
   have gI : ∀ G, (famF n V (toD (d.rules.take k)) ++ [G]).getD i default = znl (V i) (toD (d.rules.take k) i) := fun G => by
     rw [List.getD_eq_getElem?_getD, List.getElem?_append_left (by omega), ← List.getD_eq_getElem?_getD]
     exact z2v hin
   have gR : ∀ G, (famF n V (toD (d.rules.take k)) ++ [G]).getD n default = G := fun G => by
     rw [List.getD_eq_getElem?_getD, List.getElem?_append_right (by omega)]
     simp [hFl]
   have tI : (famT n V (toD (d.rules.take k))).getD i .any = .ref (i + 3) (V i) 0 (toD (d.rules.take k) i).length := z2v hin
   have iJ : (famI n (inD (d.rules.take k))).getD j .any = .int .i64 (inD (d.rules.take k) j) := z2v hjn
   have sR : ∀ G G', setQ (famF n V (toD (d.rules.take k)) ++ [G]) n G' = some (famF n V (toD (d.rules.take k)) ++ [G']) := fun G G' => by
     have := zpr (famF n V (toD (d.rules.take k))) G G'
     rwa [hFl] at this
   have sI : ∀ G G', setQ (famF n V (toD (d.rules.take k)) ++ [G]) i G' = some ((famF n V (toD (d.rules.take k))).set i G' ++ [G]) := fun G G' => zps _ _ _ (by omega)
   have gR2 : ∀ G G', ((famF n V (toD (d.rules.take k))).set i G' ++ [G]).getD n default = G := fun G G' => by
     rw [List.getD_eq_getElem?_getD, List.getElem?_append_right (by simp [hFl])]
     simp [hFl]
   have hSB : ∀ R G, z3r 3 [i + 3] (famF n V (toD (d.rules.take k)) ++ [R]) ((famF n V (toD (d.rules.take k))).set i G ++ [R]) := fun R G => by
     rw [← List.set_append_left _ _ (by omega)]
     exact zef (by simp; omega)
   generalize hF : famF n V (toD (d.rules.take k)) = F at *
   generalize hT : famT n V (toD (d.rules.take k)) = TT at *
   generalize hI : famI n (inD (d.rules.take k)) = II at *
   generalize hD : toD (d.rules.take k) i = Di at *
   generalize hJ : inD (d.rules.take k) j = Ij at *
   refine W_T ?_
   have hEx : (!Di.isEmpty || (Di.map (AV.int .i64)).isEmpty) = true := by cases Di <;> rfl
   have hDl : Di.length ≤ 4096 := by rw [← hD]; have := y2d (d.rules.take k) i; simp at this; omega
   have hJb : 0 ≤ Ij ∧ Ij ≤ 4096 := by rw [← hJ]; have := zwn (d.rules.take k) j; simp at this; omega
   (repeat' (first | (simp (disch := omega) only [push_cast, ↓zz, seval, hP, hre, hi, hj, hFl, hTl, hIl, gI, gR, gR2, sR, sI, tI, iJ, List.cons_append, List.length_append, List.length_cons]) | (with_reducible first | refine And.intro ?_ ?_ | (first | refine z01 ?_ ?_ | refine z00 ?_ ?_) <;> intro hc <;> (try simp only [push_cast] at hc)) | omega | with_reducible intro _))
   · refine z2g [i + 3] ?_
     (repeat' (first | (simp (disch := omega) only [push_cast, ↓zz, seval, xx, List.mem_cons, List.not_mem_nil, or_false, false_or, not_or, not_false_eq_true, true_or, or_true, hP, hre, hi, hj, hFl, hTl, hIl, gI, gR, gR2, sR, sI, tI, iJ, List.cons_append, List.length_append, List.length_cons, hni, hEx]) | (with_reducible first | refine And.intro ?_ ?_ | (first | refine z01 ?_ ?_ | refine z00 ?_ ?_) <;> intro hc <;> (try simp only [push_cast] at hc)) | omega | with_reducible intro _))
     · exact hSB _ _
     have he : z3v (nth d.rules k) = true := by rw [hre, z3v]; simpa using ‹(r.guards.length : Int) = 0›
     have e1 := y1a (i := i) hkl (by rw [hre]; exact hi) he
     have e2 := y1b (j := j) hkl (by rw [hre]; exact hj) he
     refine ⟨(k + 1, setV V i (V i + 1)), zwm (gar := [⟨5, 1, true, [.agg [.int .i64 i, .int .i64 j, z0b r.guards, .int .i64 r.eat, z4d r.out]]⟩]) hn1 ?_ ?_ ?_ ?_ ?_ ?_ ?_, by simp only; omega, by simp only; omega⟩
     · rw [cycL, e1, e2, hn, Int.toNat_natCast, ← hF, ← hT, ← hI, ← hD, ← hJ, hre, hj, y18 hin, zpt hjn, y19 hin]
       rfl
     all_goals first | rfl | (rw [hn]; rfl)
   · have he : z3v (nth d.rules k) = false := by rw [hre, z3v]; simpa using ‹¬ (r.guards.length : Int) = 0›
     obtain ⟨e1, e2⟩ := y1c hkl he
     refine ⟨(k + 1, V), zwm (gar := [⟨5, 1, true, [.agg [.int .i64 i, .int .i64 j, z0b r.guards, .int .i64 r.eat, z4d r.out]]⟩]) hn1 ?_ ?_ ?_ ?_ ?_ ?_ ?_, by simp only; omega, by simp only; omega⟩
     · rw [cycL, e1, e2, hn, Int.toNat_natCast, hF, hT, hI]
       rfl
     all_goals first | rfl | (rw [hn]; rfl)
 · obtain rfl : k = d.rules.length := by omega
   obtain ⟨n, hn⟩ : ∃ n : Nat, d.states = n := ⟨d.states.toNat, by omega⟩
   have ee : zeg d d.rules.length = z3t [(1, .ptr 0 1 0 0), (3, .ref 1 1 0 n), (4, .ref 2 1 0 n), (21, z3j d.rules), (22, .int .i64 d.rules.length), (23, .int .i64 d.rules.length)] := by simp only [zeg, hn, Int.toNat_natCast]
   refine W_T ?_
   rw [ee, zgj]
   (repeat' (first | (simp (disch := omega) only [push_cast, ↓zz, seval, hP]) | (with_reducible first | refine And.intro ?_ ?_ | (first | refine z01 ?_ ?_ | refine z00 ?_ ?_) <;> intro hc <;> (try simp only [push_cast] at hc)) | omega | with_reducible intro _))
   refine y61 (zsh rfl (by rw [hn]; rfl) (by rw [hn]; rfl) rfl (by rw [hn]; rfl) (by rw [hn]; rfl) rfl) ?_
   have el : z86 d d.rules.length = [(1, .ptr 0 1 0 0), (3, .lst 1 ((List.range n).map fun i => z4l (toD d.rules i))), (4, .ref 2 1 0 n), (7, .nilS), (52, .ref 2 1 0 n), (53, .int .i64 n), (54, .int .i64 0)] := by
     simp only [z86, hn, Int.toNat_natCast, List.take_length, zwq]
   rw [el, hn, Int.toNat_natCast, List.take_length]
   clear el ee
   have pL : z0l ((List.range n).map fun i => z4l (toD d.rules i)) = true := z2i.2 fun x hx => by
     obtain ⟨i, _, rfl⟩ := List.mem_map.1 hx
     exact z4h .i64 _
   have lL : ((List.range n).map fun i => z4l (toD d.rules i)).length = n := by simp
   have aL : ∀ i, i < n → ((List.range n).map fun i => z4l (toD d.rules i)).getD i .any = z4l (toD d.rules i) := fun i hi => z2v hi
   have aL2 : ∀ i, i < n → ((List.range n).map fun i => z4l (toD d.rules i))[i]? = some (z4l (toD d.rules i)) := fun i hi => by simp [hi]
   generalize hLe : (List.range n).map (fun i => z4l (toD d.rules i)) = L at *
   have pI : ∀ f, z0l (famI n f) = true := fun f => z2i.2 fun x hx => by
     obtain ⟨i, _, rfl⟩ := List.mem_map.1 hx
     rfl
   have lI : ∀ f, (famI n f).length = n := fun f => by simp [famI]
   have aI : ∀ f i, i < n → (famI n f).getD i .any = .int .i64 (f i) := fun f i hi => z2v hi
   have hnn : (n : Int) ≤ 1024 := by omega
   refine z0i (z0j (fun (k : Nat) => k ≤ n) (fun k => n - k)
     (fun k => [(1, .ptr 0 1 0 0), (3, .lst 1 L), (4, .ref 1 1 0 n), (7, .ref 2 1 0 (z8x (inD d.rules) k).length), (52, .ref 1 1 0 n), (53, .int .i64 n), (54, .int .i64 k)]) (fun k => [⟨6, 1, true, [z1y d]⟩, ⟨1, 1, true, famI n (inD d.rules)⟩, ⟨1, 1, false, (z8x (inD d.rules) k).map (AV.int .i64)⟩]) (fun env _ => [z0r 1 (env 1), z0r 1 (env 4), z0r 1 (env 7)]) 0 (by simp) ?_ ?_)
   · have z0 : z8x (inD d.rules) 0 = [] := rfl
     (repeat' (first | (simp (disch := omega) only [push_cast, ↓zz, seval, pL, lL, pI, lI, z0]) | (with_reducible first | refine And.intro ?_ ?_ | (first | refine z01 ?_ ?_ | refine z00 ?_ ?_) <;> intro hc <;> (try simp only [push_cast] at hc)) | omega | with_reducible intro _))
   intro k hk
   have zl := zvy (inD d.rules) k
   rcases Nat.lt_or_ge k n with hkn | hkn
   · have aK := aI (inD d.rules) k hkn
     have zs := zrl (inD d.rules) k
     have hib := zwn d.rules k
     generalize inD d.rules k = v at *
     refine W_T ?_
     (repeat' (first | (simp (disch := omega) only [push_cast, ↓zz, seval, pL, lL, pI, lI, aK]) | (with_reducible first | refine And.intro ?_ ?_ | (first | refine z01 ?_ ?_ | refine z00 ?_ ?_) <;> intro hc <;> (try simp only [push_cast] at hc)) | omega | with_reducible intro _))
     · rw [if_pos (by assumption)] at zs
       refine ⟨k + 1, ?_⟩
       (repeat' (first | (simp (disch := omega) only [push_cast, ↓zz, seval, zs]) | (with_reducible first | refine And.intro ?_ ?_ | (first | refine z01 ?_ ?_ | refine z00 ?_ ?_) <;> intro hc <;> (try simp only [push_cast] at hc)) | omega | with_reducible intro _))
     · rw [if_neg (by assumption)] at zs
       refine ⟨k + 1, ?_⟩
       (repeat' (first | (simp (disch := omega) only [push_cast, ↓zz, seval, zs]) | (with_reducible first | refine And.intro ?_ ?_ | (first | refine z01 ?_ ?_ | refine z00 ?_ ?_) <;> intro hc <;> (try simp only [push_cast] at hc)) | omega | with_reducible intro _))
   · have hkn2 : n = k := by omega
     subst hkn2
     refine W_T ?_
     (repeat' (first | (simp (disch := omega) only [push_cast, ↓zz, seval, pL, lL, pI, lI]) | (with_reducible first | refine And.intro ?_ ?_ | (first | refine z01 ?_ ?_ | refine z00 ?_ ?_) <;> intro hc <;> (try simp only [push_cast] at hc)) | omega | with_reducible intro _))
     have hto : ∀ s m, m < (toD d.rules s).length → 0 ≤ nth (toD d.rules s) m ∧ nth (toD d.rules s) m < n := fun s m hm => by
       have hm2 : nth (toD d.rules s) m ∈ toD d.rules s := z0k hm
       generalize nth (toD d.rules s) m = x at *
       obtain ⟨r, hr, rfl⟩ := List.mem_map.1 hm2
       have := hrul r (List.mem_filter.1 hr).1
       omega
     refine z0i (z0j (fun (s : List Int × List Int × List Int) => KInv d.rules n (s.1 ++ s.2.1) (cntE d.rules s.1)) (fun s => n - s.1.length)
       (fun s => [(1, .ptr 0 1 0 0), (3, .lst 1 L), (4, .ref 1 1 0 n), (7, .ref 2 1 s.2.2.length s.2.1.length), (10, .int .i64 s.1.length)]) (fun s => [⟨6, 1, true, [z1y d]⟩, ⟨1, 1, true, famI n (cntE d.rules s.1)⟩, ⟨1, 1, false, (s.2.2 ++ s.2.1).map (AV.int .i64)⟩]) (fun env _ => [z0r 1 (env 1), z0r 1 (env 4), z0r 1 (env 7)]) ([], z8x (inD d.rules) n, []) (zrm d.rules n) ?_ ?_)
     · have e0 : cntE d.rules [] = inD d.rules := funext fun j => zie _ _
       (repeat' (first | (simp (disch := omega) only [push_cast, ↓zz, seval, pL, lL, pI, lI, e0]) | (with_reducible first | refine And.intro ?_ ?_ | (first | refine z01 ?_ ?_ | refine z00 ?_ ?_) <;> intro hc <;> (try simp only [push_cast] at hc)) | omega | with_reducible intro _))
     rintro ⟨P, td, junk⟩ hK
     simp only at hK
     have hlen2 := hK.len
     rw [List.length_append] at hlen2
     rcases td with _ | ⟨x, rest⟩
     · rw [List.append_nil] at hK
       have hdone := zw1 (fun r hr => by have := hrul r hr; omega) hK
       refine W_T ?_
       (repeat' (first | (simp (disch := omega) only [push_cast, ↓zz, seval, pL, lL, pI, lI]) | (with_reducible first | refine And.intro ?_ ?_ | (first | refine z01 ?_ ?_ | refine z00 ?_ ?_) <;> intro hc <;> (try simp only [push_cast] at hc)) | omega | with_reducible intro _))
       all_goals exact decide_eq_decide.2 (by rw [← hdone]; omega)
     · have hx := hK.range x (by simp)
       obtain ⟨s, rfl⟩ : ∃ s : Nat, x = s := ⟨x.toNat, by omega⟩
       have hsn : s < n := by omega
       have hsP : (s : Int) ∉ P := fun hh => by
         exact (List.nodup_append.1 hK.nodup).2.2 (s : Int) hh (s : Int) (by simp) rfl
       have aS := aL s hsn
       have aS2 := aL2 s hsn
       have j0 : (junk.map (AV.int .i64) ++ AV.int .i64 (s : Int) :: rest.map (AV.int .i64)).getD junk.length .any = .int .i64 s := by simp [List.getD]
       have j1 : nth (junk ++ (s : Int) :: rest) junk.length = s := by simp [nth]
       have hjl : (junk ++ (s : Int) :: rest).length = junk.length + (rest.length + 1) := by simp
       simp only [List.length_cons] at hlen2
       refine W_T ?_
       (repeat' (first | (simp (disch := omega) only [push_cast, ↓zz, seval, pL, lL, pI, lI, aS, aS2, j0, j1, hjl, List.length_cons]) | (with_reducible first | refine And.intro ?_ ?_ | (first | refine z01 ?_ ?_ | refine z00 ?_ ?_) <;> intro hc <;> (try simp only [push_cast] at hc)) | omega | with_reducible intro _))
       have hK0 : KInv d.rules n (P ++ [(s : Int)] ++ rest) (z4f d.rules P s 0) := by
         rw [zg6, List.append_assoc]
         exact hK
       have hDb := y2d d.rules s
       refine z0i (z0j (fun (q : Nat × List Int × List Int) => q.1 ≤ (toD d.rules s).length ∧ KInv d.rules n (P ++ [(s : Int)] ++ q.2.1) (z4f d.rules P s q.1)) (fun q => (toD d.rules s).length - q.1)
         (fun q => [(1, .ptr 0 1 0 0), (3, .lst 1 L), (4, .ref 1 1 0 n), (7, .ref 2 1 q.2.2.length q.2.1.length), (10, .int .i64 P.length), (79, z4l (toD d.rules s)), (80, .int .i64 (toD d.rules s).length), (81, .int .i64 q.1)]) (fun q => [⟨6, 1, true, [z1y d]⟩, ⟨1, 1, true, famI n (z4f d.rules P s q.1)⟩, ⟨1, 1, false, (q.2.2 ++ q.2.1).map (AV.int .i64)⟩]) (fun env _ => [z0r 1 (env 1), z0r 1 (env 4), z0r 1 (env 7)]) (0, rest, junk ++ [(s : Int)]) ⟨by simp, hK0⟩ ?_ ?_)
       · have e0 := zg6 d.rules P s
         (repeat' (first | (simp (disch := omega) only [push_cast, ↓zz, seval, pL, lL, pI, lI, e0, List.map_append, List.append_assoc, List.map_cons, List.map_nil, List.cons_append, List.nil_append, List.length_append, List.length_cons, List.length_nil]) | (with_reducible first | refine And.intro ?_ ?_ | (first | refine z01 ?_ ?_ | refine z00 ?_ ?_) <;> intro hc <;> (try simp only [push_cast] at hc)) | omega | with_reducible intro _))
       rintro ⟨m, td, jk⟩ ⟨m1, m2⟩
       simp only at m1 m2
       have hlen3 := m2.len
       simp only [List.length_append, List.length_cons, List.length_nil] at hlen3
       rcases Nat.lt_or_ge m (toD d.rules s).length with hm | hm
       · obtain ⟨t1, t2⟩ := hto s m hm
         obtain ⟨t, ht⟩ : ∃ t : Nat, nth (toD d.rules s) m = t := ⟨(nth (toD d.rules s) m).toNat, by omega⟩
         have htn : t < n := by omega
         have hst := zw0 hsP hm ht htn m2
         have hle := zar (P := P) hm ht
         have hps := zl4 hsP hm ht
         have aT := aI (z4f d.rules P s m) t htn
         have aT2 := aI (z4f d.rules P s (m + 1)) t htn
         have hv : z4f d.rules P s (m + 1) t = z4f d.rules P s m t - 1 := by rw [hle]; simp
         have hset : (famI n (z4f d.rules P s m)).set t (.int .i64 (z4f d.rules P s m t - 1)) = famI n (z4f d.rules P s (m + 1)) := by rw [hle]; exact zpt htn
         have hlb : z4f d.rules P s m t ≤ 4096 := by
           have c1 : cntE d.rules P t ≤ inD d.rules t := by
             rw [← zie]
             exact y63 _ _ _
           have c2 := zwn d.rules t
           have c3 : z4f d.rules P s m t ≤ cntE d.rules P t := by simp only [z4f]; omega
           omega
         rw [hv] at aT2
         generalize z4f d.rules P s m t = v at *
         refine W_T ?_
         have eD : List.drop jk.length (jk.map (AV.int .i64) ++ td.map (AV.int .i64)) = td.map (AV.int .i64) := by
           rw [List.drop_append_of_le_length (by simp), List.drop_eq_nil_of_le (by simp), List.nil_append]
         (repeat' (first | (simp (disch := omega) only [push_cast, ↓zz, seval, pL, lL, pI, lI, ht, aT, aT2, hset, eD]) | (with_reducible first | refine And.intro ?_ ?_ | (first | refine z01 ?_ ?_ | refine z00 ?_ ?_) <;> intro hc <;> (try simp only [push_cast] at hc)) | omega | with_reducible intro _))
         · rw [if_pos (by assumption)] at hst
           refine ⟨(m + 1, td ++ [(t : Int)], jk), ?_⟩
           (repeat' (first | (simp (disch := omega) only [push_cast, ↓zz, seval, List.map_append, List.append_assoc, List.map_cons, List.map_nil, List.length_append, List.length_cons, List.length_nil]) | (with_reducible first | refine And.intro ?_ ?_ | (first | refine z01 ?_ ?_ | refine z00 ?_ ?_) <;> intro hc <;> (try simp only [push_cast] at hc)) | omega | with_reducible intro _))
           simpa [List.append_assoc] using hst
         · rw [if_pos (by assumption)] at hst
           refine ⟨(m + 1, td ++ [(t : Int)], []), ?_⟩
           (repeat' (first | (simp (disch := omega) only [push_cast, ↓zz, seval, List.map_append, List.append_assoc, List.map_cons, List.map_nil, List.nil_append, List.length_append, List.length_cons, List.length_nil]) | (with_reducible first | refine And.intro ?_ ?_ | (first | refine z01 ?_ ?_ | refine z00 ?_ ?_) <;> intro hc <;> (try simp only [push_cast] at hc)) | omega | with_reducible intro _))
           simpa [List.append_assoc] using hst
         · rw [if_neg (by assumption)] at hst
           refine ⟨(m + 1, td, jk), ?_⟩
           (repeat' (first | (simp (disch := omega) only [push_cast, ↓zz, seval]) | (with_reducible first | refine And.intro ?_ ?_ | (first | refine z01 ?_ ?_ | refine z00 ?_ ?_) <;> intro hc <;> (try simp only [push_cast] at hc)) | omega | with_reducible intro _))
           simpa [List.append_assoc] using hst
       · have hme : m = (toD d.rules s).length := by omega
         subst hme
         have hE := zvz (l := d.rules) hsP
         rw [hE] at m2
         rw [hE]
         refine W_T ?_
         (repeat' (first | (simp (disch := omega) only [push_cast, ↓zz, seval, pL, lL, pI, lI]) | (with_reducible first | refine And.intro ?_ ?_ | (first | refine z01 ?_ ?_ | refine z00 ?_ ?_) <;> intro hc <;> (try simp only [push_cast] at hc)) | omega | with_reducible intro _))
         all_goals
           refine ⟨(P ++ [(s : Int)], td, jk), ?_⟩
           (repeat' (first | (simp (disch := omega) only [push_cast, ↓zz, seval, List.length_append, List.length_cons, List.length_nil]) | (with_reducible first | refine And.intro ?_ ?_ | (first | refine z01 ?_ ?_ | refine z00 ?_ ?_) <;> intro hc <;> (try simp only [push_cast] at hc)) | omega | with_reducible intro _))
         all_goals (simpa [List.append_assoc] using m2)
def z4n {α : Type} (p : α → Bool) : List α → Nat → Option Nat
 | [], _ => none
 | x :: l, i => if p x then z4n p l (i + 1) else some i
theorem zcb {α : Type} [Inhabited α] {p : α → Bool} {l : List α} {k : Nat} (h : k < l.length) : z4n p (l.drop k) k = if p (nth l k) then z4n p (l.drop (k + 1)) (k + 1) else some k := by rw [drop_at h, z4n]
theorem z6d {α : Type} {p : α → Bool} : ∀ {l : List α} {i : Nat}, z4n p l i = none → ∀ x ∈ l, p x = true
 | [], _, _, _, h => by cases h
 | y :: l, i, h, x, hx => by
   rw [z4n] at h
   split at h
   · rename_i hp
     rcases List.mem_cons.1 hx with rfl | hx
     · exact hp
     · exact z6d h x hx
   · cases h
def z38 (d : Desc) (f : z6z) : Bool := z5o d f.from_ && (z2l d.in_ f.guards && z2q d f.out f.guards)
open Classical in
noncomputable def z3m (d : Desc) : Int × Int :=
 if zed d = false then (1, 0) else
   match z4n (z4j d) d.rules 0 with
   | some i => (2, i)
   | none => match z4n (z38 d) d.finals 0 with
     | some i => (3, i)
     | none => if cycP d.rules d.states.toNat then (4, 0) else (0, 0)
def z6s (d : Desc) : Prop := (∀ r ∈ d.rules, ∀ t ∈ r.out, t.parts.length < 1000000000000) ∧ ∀ f ∈ d.finals, ∀ t ∈ f.out, t.parts.length < 1000000000000
theorem znn {d : Desc} (h : zed d = true) : (1 ≤ d.states ∧ d.states ≤ 1024) ∧ d.rules.length ≤ 4096 ∧ d.finals.length ≤ 4096 ∧ 0 ≤ d.start ∧ d.start < d.states := by
 simp only [zed, z5o, Bool.and_eq_true, decide_eq_true_eq] at h
 omega
theorem ziw {d : Desc} {r : Rule} (h : z4j d r = true) : (0 ≤ r.from_ ∧ r.from_ < d.states) ∧ 0 ≤ r.to_ ∧ r.to_ < d.states := by
 simp only [z4j, z5o, Bool.and_eq_true, decide_eq_true_eq] at h
 omega
theorem zb0 (d : Desc) (hf : z6s d) : PC Try.prog 12 [z1y d] (.tup [.int .i64 (z3m d).1, .int .i64 (z3m d).2]) := by
 have hH := zwk d
 have hPr := z1h d.rules
 have hPf := z1v d.finals
 refine z0t zk3 ?_
 unfold zb5
 cases hh : zed d with
 | false =>
   rw [hh] at hH
   rw [z3m, if_pos hh]
   (repeat' (first | (simp (disch := omega) only [push_cast, ↓zz, seval]) | (with_reducible first | refine And.intro ?_ ?_ | (first | refine z01 ?_ ?_ | refine z00 ?_ ?_) <;> intro hc <;> (try simp only [push_cast] at hc)) | ((with_reducible first | refine eK hH ?_ | refine eQ hH ?_ | refine eG hH ?_)) | ((with_reducible first | refine cK hH ?_ | refine cQ hH ?_ | refine cG hH ?_); (simp (disch := omega) only [push_cast, ↓zz, seval]); (fail_if_success (with_reducible change False))) | omega | with_reducible intro _))
 | true =>
 rw [hh] at hH
 obtain ⟨b1, b2, b3, b4⟩ := znn hh
 have hW : z3m d = match z4n (z4j d) d.rules 0 with
   | some i => (2, (i : Int))
   | none => match z4n (z38 d) d.finals 0 with
     | some i => (3, (i : Int))
     | none => if (@decide (cycP d.rules d.states.toNat) (Classical.propDecidable _)) = true then (4, 0) else (0, 0) := by
   rw [z3m, if_neg (by simp [hh])]
   split
   · rfl
   · split
     · rfl
     · by_cases hc : cycP d.rules d.states.toNat
       · rw [if_pos hc, if_pos (@decide_eq_true _ (Classical.propDecidable _) hc)]
       · rw [if_neg hc, if_neg (by rw [@decide_eq_false _ (Classical.propDecidable _) hc]; simp)]
 (repeat' (first | (simp (disch := omega) only [push_cast, ↓zz, seval]) | (with_reducible first | refine And.intro ?_ ?_ | (first | refine z01 ?_ ?_ | refine z00 ?_ ?_) <;> intro hc <;> (try simp only [push_cast] at hc)) | ((with_reducible first | refine eK hH ?_ | refine eQ hH ?_ | refine eG hH ?_)) | ((with_reducible first | refine cK hH ?_ | refine cQ hH ?_ | refine cG hH ?_); (simp (disch := omega) only [push_cast, ↓zz, seval]); (fail_if_success (with_reducible change False))) | omega | with_reducible intro _))
 refine z0i (z0j (fun (k : Nat) => k ≤ d.rules.length ∧ z4n (z4j d) d.rules 0 = z4n (z4j d) (d.rules.drop k) k) (fun k => d.rules.length - k)
   (fun k => [(1, .ptr 0 1 0 0), (12, z3j d.rules), (13, .int .i64 d.rules.length), (14, .int .i64 k)]) (fun k => [⟨6, 1, true, [z1y d]⟩]) (fun env _ => [z0r 1 (env 1)]) 0 ⟨by simp, rfl⟩ ?_ ?_)
 · (repeat' (first | (simp (disch := omega) only [push_cast, ↓zz, seval, hPr, hPf]) | (with_reducible first | refine And.intro ?_ ?_ | (first | refine z01 ?_ ?_ | refine z00 ?_ ?_) <;> intro hc <;> (try simp only [push_cast] at hc)) | omega | with_reducible intro _))
 rintro k ⟨k1, k2⟩
 rcases Nat.lt_or_ge k d.rules.length with hk | hk
 · have hr := zwl d (nth d.rules k) (hf.1 _ (z0k hk))
   rw [zcb hk] at k2
   cases hb : z4j d (nth d.rules k) with
   | false =>
     rw [hb] at hr k2
     simp only [Bool.false_eq_true, if_false] at k2
     rw [hW, k2]
     refine W_T ?_
     (repeat' (first | (simp (disch := omega) only [push_cast, ↓zz, seval, hPr, hPf]) | (with_reducible first | refine And.intro ?_ ?_ | (first | refine z01 ?_ ?_ | refine z00 ?_ ?_) <;> intro hc <;> (try simp only [push_cast] at hc)) | ((with_reducible first | refine eK hr ?_ | refine eQ hr ?_ | refine eG hr ?_)) | ((with_reducible first | refine cK hr ?_ | refine cQ hr ?_ | refine cG hr ?_); (simp (disch := omega) only [push_cast, ↓zz, seval, hPr, hPf]); (fail_if_success (with_reducible change False))) | omega | with_reducible intro _))
   | true =>
     rw [hb] at hr k2
     simp only [if_true] at k2
     refine W_T ?_
     (repeat' (first | (simp (disch := omega) only [push_cast, ↓zz, seval, hPr, hPf]) | (with_reducible first | refine And.intro ?_ ?_ | (first | refine z01 ?_ ?_ | refine z00 ?_ ?_) <;> intro hc <;> (try simp only [push_cast] at hc)) | ((with_reducible first | refine eK hr ?_ | refine eQ hr ?_ | refine eG hr ?_)) | ((with_reducible first | refine cK hr ?_ | refine cQ hr ?_ | refine cG hr ?_); (simp (disch := omega) only [push_cast, ↓zz, seval, hPr, hPf]); (fail_if_success (with_reducible change False))) | omega | with_reducible intro _))
     all_goals exact ⟨k + 1, by push_cast, ⟨by omega, k2⟩, by omega⟩
 · rw [List.drop_of_length_le hk, z4n] at k2
   have hall := z6d k2
   have hC := zsi d ⟨b1, b2, fun r hr => ziw (hall r hr)⟩
   rw [k2] at hW
   simp only at hW
   refine W_T ?_
   (repeat' (first | (simp (disch := omega) only [push_cast, ↓zz, seval, hPr, hPf]) | (with_reducible first | refine And.intro ?_ ?_ | (first | refine z01 ?_ ?_ | refine z00 ?_ ?_) <;> intro hc <;> (try simp only [push_cast] at hc)) | omega | with_reducible intro _))
   refine z0i (z0j (fun (k : Nat) => k ≤ d.finals.length ∧ z4n (z38 d) d.finals 0 = z4n (z38 d) (d.finals.drop k) k) (fun k => d.finals.length - k)
     (fun k => [(1, .ptr 0 1 0 0), (26, z40 d.finals), (27, .int .i64 d.finals.length), (28, .int .i64 k)]) (fun k => [⟨6, 1, true, [z1y d]⟩]) (fun env _ => [z0r 1 (env 1)]) 0 ⟨by simp, rfl⟩ ?_ ?_)
   · (repeat' (first | (simp (disch := omega) only [push_cast, ↓zz, seval, hPr, hPf]) | (with_reducible first | refine And.intro ?_ ?_ | (first | refine z01 ?_ ?_ | refine z00 ?_ ?_) <;> intro hc <;> (try simp only [push_cast] at hc)) | omega | with_reducible intro _))
   rintro j ⟨j1, j2⟩
   rcases Nat.lt_or_ge j d.finals.length with hj | hj
   · generalize hfe : nth d.finals j = f at *
     have hfm : f ∈ d.finals := by rw [← hfe]; exact z0k hj
     have hfo := hf.2 f hfm
     have h1 := z85 d f.from_
     have h2 := zec d.in_ f.guards
     have hP := z06 f.guards
     have hT := z0w f.out
     rw [zcb hj, hfe] at j2
     cases hg : z2l d.in_ f.guards with
     | false =>
       have hb : z38 d f = false := by rw [z38, hg]; simp
       rw [hg] at h2
       rw [hb] at j2
       simp only [Bool.false_eq_true, if_false] at j2
       rw [hW, j2]
       refine W_T ?_
       (repeat' (first | (simp (disch := omega) only [push_cast, ↓zz, seval, hPr, hPf, hfe, hP, hT]) | (with_reducible first | refine And.intro ?_ ?_ | (first | refine z01 ?_ ?_ | refine z00 ?_ ?_) <;> intro hc <;> (try simp only [push_cast] at hc)) | ((with_reducible first | refine eK h1 ?_ | refine eQ h1 ?_ | refine eG h1 ?_)) | ((with_reducible first | refine eK h2 ?_ | refine eQ h2 ?_ | refine eG h2 ?_)) | ((with_reducible first | refine cK h1 ?_ | refine cQ h1 ?_ | refine cG h1 ?_); (simp (disch := omega) only [push_cast, ↓zz, seval, hPr, hPf, hfe, hP, hT]); (fail_if_success (with_reducible change False))) | ((with_reducible first | refine cK h2 ?_ | refine cQ h2 ?_ | refine cG h2 ?_); (simp (disch := omega) only [push_cast, ↓zz, seval, hPr, hPf, hfe, hP, hT]); (fail_if_success (with_reducible change False))) | omega | with_reducible intro _))
     | true =>
       rw [hg] at h2
       obtain ⟨g1, g2⟩ := z4x hg
       have h4 := zee d f.out f.guards hfo (fun g hg => by have := g2 g hg; omega) (by omega)
       cases hb : z38 d f with
       | false =>
         rw [hb] at j2
         simp only [Bool.false_eq_true, if_false] at j2
         rw [hW, j2]
         rw [z38, hg, Bool.true_and] at hb
         refine W_T ?_
         (repeat' (first | (simp (disch := omega) only [push_cast, ↓zz, seval, hPr, hPf, hfe, hP, hT]) | (with_reducible first | refine And.intro ?_ ?_ | (first | refine z01 ?_ ?_ | refine z00 ?_ ?_) <;> intro hc <;> (try simp only [push_cast] at hc)) | ((with_reducible first | refine eK h1 ?_ | refine eQ h1 ?_ | refine eG h1 ?_)) | ((with_reducible first | refine eK h2 ?_ | refine eQ h2 ?_ | refine eG h2 ?_)) | ((with_reducible first | refine eK h4 ?_ | refine eQ h4 ?_ | refine eG h4 ?_)) | ((with_reducible first | refine cK h1 ?_ | refine cQ h1 ?_ | refine cG h1 ?_); (simp (disch := omega) only [push_cast, ↓zz, seval, hPr, hPf, hfe, hP, hT]); (fail_if_success (with_reducible change False))) | ((with_reducible first | refine cK h2 ?_ | refine cQ h2 ?_ | refine cG h2 ?_); (simp (disch := omega) only [push_cast, ↓zz, seval, hPr, hPf, hfe, hP, hT]); (fail_if_success (with_reducible change False))) | ((with_reducible first | refine cK h4 ?_ | refine cQ h4 ?_ | refine cG h4 ?_); (simp (disch := omega) only [push_cast, ↓zz, seval, hPr, hPf, hfe, hP, hT]); (fail_if_success (with_reducible change False))) | omega | with_reducible intro _))
         all_goals first
           | (exfalso; simp_all; done)
           | trace_state
       | true =>
         rw [hb] at j2
         simp only [if_true] at j2
         rw [z38, hg, Bool.true_and, Bool.and_eq_true] at hb
         rw [hb.1] at h1
         rw [hb.2] at h4
         refine W_T ?_
         (repeat' (first | (simp (disch := omega) only [push_cast, ↓zz, seval, hPr, hPf, hfe, hP, hT]) | (with_reducible first | refine And.intro ?_ ?_ | (first | refine z01 ?_ ?_ | refine z00 ?_ ?_) <;> intro hc <;> (try simp only [push_cast] at hc)) | ((with_reducible first | refine eK h1 ?_ | refine eQ h1 ?_ | refine eG h1 ?_)) | ((with_reducible first | refine eK h2 ?_ | refine eQ h2 ?_ | refine eG h2 ?_)) | ((with_reducible first | refine eK h4 ?_ | refine eQ h4 ?_ | refine eG h4 ?_)) | ((with_reducible first | refine cK h1 ?_ | refine cQ h1 ?_ | refine cG h1 ?_); (simp (disch := omega) only [push_cast, ↓zz, seval, hPr, hPf, hfe, hP, hT]); (fail_if_success (with_reducible change False))) | ((with_reducible first | refine cK h2 ?_ | refine cQ h2 ?_ | refine cG h2 ?_); (simp (disch := omega) only [push_cast, ↓zz, seval, hPr, hPf, hfe, hP, hT]); (fail_if_success (with_reducible change False))) | ((with_reducible first | refine cK h4 ?_ | refine cQ h4 ?_ | refine cG h4 ?_); (simp (disch := omega) only [push_cast, ↓zz, seval, hPr, hPf, hfe, hP, hT]); (fail_if_success (with_reducible change False))) | omega | with_reducible intro _))
         all_goals exact ⟨j + 1, by push_cast, ⟨by omega, j2⟩, by omega⟩
   · rw [List.drop_of_length_le hj, z4n] at j2
     rw [j2] at hW
     simp only at hW
     generalize @decide (cycP d.rules d.states.toNat) (Classical.propDecidable _) = c at *
     refine W_T ?_
     rw [hW]
     cases c
     · (repeat' (first | (simp (disch := omega) only [push_cast, ↓zz, seval, hPr, hPf]) | (with_reducible first | refine And.intro ?_ ?_ | (first | refine z01 ?_ ?_ | refine z00 ?_ ?_) <;> intro hc <;> (try simp only [push_cast] at hc)) | ((with_reducible first | refine eK hC ?_ | refine eQ hC ?_ | refine eG hC ?_)) | ((with_reducible first | refine cK hC ?_ | refine cQ hC ?_ | refine cG hC ?_); (simp (disch := omega) only [push_cast, ↓zz, seval, hPr, hPf]); (fail_if_success (with_reducible change False))) | omega | with_reducible intro _))
     · (repeat' (first | (simp (disch := omega) only [push_cast, ↓zz, seval, hPr, hPf]) | (with_reducible first | refine And.intro ?_ ?_ | (first | refine z01 ?_ ?_ | refine z00 ?_ ?_) <;> intro hc <;> (try simp only [push_cast] at hc)) | ((with_reducible first | refine eK hC ?_ | refine eQ hC ?_ | refine eG hC ?_)) | ((with_reducible first | refine cK hC ?_ | refine cQ hC ?_ | refine cG hC ?_); (simp (disch := omega) only [push_cast, ↓zz, seval, hPr, hPf]); (fail_if_success (with_reducible change False))) | omega | with_reducible intro _))
       all_goals trace_state
noncomputable def z5p (d : Desc) : Int := if (z3m d).1 = 0 then 0 else 2
theorem z87 (d : Desc) (hf : z6s d) : PC Try.prog 14 [z1y d] (.int .i64 (z5p d)) := by
 have hW := zb0 d hf
 refine z0t zk4 ?_
 unfold zb6 z5p
 generalize z3m d = w at *
 by_cases h : w.1 = 0
 · rw [if_pos h]
   (repeat' (first | (simp (disch := omega) only [push_cast, ↓zz, seval, h]) | (with_reducible first | refine And.intro ?_ ?_ | (first | refine z01 ?_ ?_ | refine z00 ?_ ?_) <;> intro hc <;> (try simp only [push_cast] at hc)) | ((with_reducible first | refine eK hW ?_ | refine eQ hW ?_ | refine eG hW ?_)) | ((with_reducible first | refine cK hW ?_ | refine cQ hW ?_ | refine cG hW ?_); (simp (disch := omega) only [push_cast, ↓zz, seval, h]); (fail_if_success (with_reducible change False))) | omega | with_reducible intro _))
 · rw [if_neg h]
   (repeat' (first | (simp (disch := omega) only [push_cast, ↓zz, seval, h]) | (with_reducible first | refine And.intro ?_ ?_ | (first | refine z01 ?_ ?_ | refine z00 ?_ ?_) <;> intro hc <;> (try simp only [push_cast] at hc)) | ((with_reducible first | refine eK hW ?_ | refine eQ hW ?_ | refine eG hW ?_)) | ((with_reducible first | refine cK hW ?_ | refine cQ hW ?_ | refine cG hW ?_); (simp (disch := omega) only [push_cast, ↓zz, seval, h]); (fail_if_success (with_reducible change False))) | omega | with_reducible intro _))
   all_goals trace_state
theorem fold_at {α β : Type} [Inhabited α] {f : β → α → β} {l : List α} {k : Nat} {s : β} (h : k < l.length) : (l.drop k).foldl f s = (l.drop (k + 1)).foldl f (f s (nth l k)) := by rw [drop_at h, List.foldl_cons]
def freeB (d : Desc) : Bool := d.rules.all fun r => !z3v r
def widF (n : Int) (r : Rule) : Int := max n r.guards.length
def ya0 (d : Desc) : Int := d.rules.foldl widF 0
def aheF (n : Int) (r : Rule) : Int := max n (r.guards.length - max r.eat 0)
def ya1 (d : Desc) : Int := d.rules.foldl aheF 0
def lonF (n : Int) (r : Rule) : Int := max n r.out.length
def lonG (n : Int) (f : z6z) : Int := max n f.out.length
def longV (d : Desc) : Int := d.finals.foldl lonG (d.rules.foldl lonF 0)
theorem zgk (a b : Int) : PC Try.prog 15 [.int .i64 a, .int .i64 b] (z1y ⟨a, b, 1, 0, [], []⟩) := by
 refine z0t zk5 ?_
 unfold zb7
 (repeat' (first | (simp (disch := omega) only [push_cast, ↓zz, seval]) | (with_reducible first | refine And.intro ?_ ?_ | (first | refine z01 ?_ ?_ | refine z00 ?_ ?_) <;> intro hc <;> (try simp only [push_cast] at hc)) | omega | with_reducible intro _))
 all_goals trace_state
def zei : Term := ⟨0, 0, 21, 0, 0, [⟨0, 0, 21, 0⟩]⟩
def z8z (s : Int) : Desc := ⟨s, s, 1, 0, [⟨0, 0, [domL s], 1, [zei]⟩], [⟨0, [], []⟩]⟩
theorem ya2 {P : Program} {f : Nat} {xs : List AV} {y y2 : AV} (h : PC P f xs y) (hle : AV.le y y2) : PC P f xs y2 := ⟨h.1, fun S cargs hS hx => (h.2 S cargs hS hx).mono fun e w' hh => by
 obtain ⟨v, S', x, H', he, hw, ev, hS', hv, rfl, rfl⟩ := hh
 exact ⟨v, S', _, _, he, hw, ev, hS', hle S' v hv, rfl, rfl⟩⟩
theorem y6f : AV.le (.lst 3 [.agg [.int .i64 0, .nilS, .nilS]]) (z40 [⟨0, [], []⟩]) :=
 AV.le_lst rfl rfl (z0f (AV.le_agg (z0f (AV.le_refl _) (z0f (AV.le_nilS Nat.one_pos) (z0f (AV.le_nilS (by decide)) z3p)))) z3p)
theorem zws (s : Int) : PC Try.prog 16 [.int .i64 s] (z1y (z8z s)) := by
 have hE := zgk s s
 have hD := z3e s
 have hC := zvf 0 0
 have hp : z0l ((domL s).map z1e) = true := z2b _
 have key : PC Try.prog 16 [.int .i64 s] (.agg [.int .i64 s, .int .i64 s, .int .i64 1, .int .i64 0, z3j [⟨0, 0, [domL s], 1, [zei]⟩], .lst 3 [.agg [.int .i64 0, .nilS, .nilS]]]) := by
   refine z0t zme ?_
   unfold zd3
   (repeat' (first | (simp (disch := omega) only [push_cast, ↓zz, seval, hp]) | (with_reducible first | refine And.intro ?_ ?_ | (first | refine z01 ?_ ?_ | refine z00 ?_ ?_) <;> intro hc <;> (try simp only [push_cast] at hc)) | ((with_reducible first | refine eK hE ?_ | refine eQ hE ?_ | refine eG hE ?_)) | ((with_reducible first | refine eK hD ?_ | refine eQ hD ?_ | refine eG hD ?_)) | ((with_reducible first | refine eK hC ?_ | refine eQ hC ?_ | refine eG hC ?_)) | ((with_reducible first | refine cK hE ?_ | refine cQ hE ?_ | refine cG hE ?_); (simp (disch := omega) only [push_cast, ↓zz, seval, hp]); (fail_if_success (with_reducible change False))) | ((with_reducible first | refine cK hD ?_ | refine cQ hD ?_ | refine cG hD ?_); (simp (disch := omega) only [push_cast, ↓zz, seval, hp]); (fail_if_success (with_reducible change False))) | ((with_reducible first | refine cK hC ?_ | refine cQ hC ?_ | refine cG hC ?_); (simp (disch := omega) only [push_cast, ↓zz, seval, hp]); (fail_if_success (with_reducible change False))) | omega | with_reducible intro _))
   all_goals first | rfl | trace_state
 exact ya2 key (AV.le_agg (z0f (AV.le_refl _) (z0f (AV.le_refl _) (z0f (AV.le_refl _) (z0f (AV.le_refl _) (z0f (AV.le_refl _) (z0f y6f z3p)))))))
theorem zno (l : List Span) (hl : l.length ≤ 1000000000000) : PC Try.prog 64 [z03 l] (z03 l) := by
 by_cases h0 : l = []
 · subst h0
   refine y1x ?_ ?_
   · refine z0t z1z ?_
     unfold z1i
     (repeat' (first | (simp (disch := omega) only [push_cast, ↓zz, seval]) | (with_reducible first | refine And.intro ?_ ?_ | (first | refine z01 ?_ ?_ | refine z00 ?_ ?_) <;> intro hc <;> (try simp only [push_cast] at hc)) | omega | with_reducible intro _))
   · refine z0t z1z ?_
     unfold z1i
     (repeat' (first | (simp (disch := omega) only [push_cast, ↓zz, seval]) | (with_reducible first | refine And.intro ?_ ?_ | (first | refine z01 ?_ ?_ | refine z00 ?_ ?_) <;> intro hc <;> (try simp only [push_cast] at hc)) | omega | with_reducible intro _))
 refine z0t z1z ?_
 unfold z1i
 (repeat' (first | (simp (disch := omega) only [push_cast, ↓zz, seval]) | (with_reducible first | refine And.intro ?_ ?_ | (first | refine z01 ?_ ?_ | refine z00 ?_ ?_) <;> intro hc <;> (try simp only [push_cast] at hc)) | omega | with_reducible intro _))
 all_goals trace_state
theorem zej (gs : List (List Span)) (hl : gs.length ≤ 1000000) (hg : ∀ g ∈ gs, g.length ≤ 1000000) : PC Try.prog 48 [z0b gs] (z0b gs) := by
 have hP := z06 gs
 refine z0t zhu ?_
 unfold z9n
 (repeat' (first | (simp (disch := omega) only [push_cast, ↓zz, seval]) | (with_reducible first | refine And.intro ?_ ?_ | (first | refine z01 ?_ ?_ | refine z00 ?_ ?_) <;> intro hc <;> (try simp only [push_cast] at hc)) | omega | with_reducible intro _))
 refine z0i (z0j (fun (k : Nat) => k ≤ gs.length) (fun k => gs.length - k)
   (fun k => [(3, .ref 0 1 0 k), (6, z0b gs), (7, .int .i64 gs.length), (8, .int .i64 k)]) (fun k => [⟨1, 1, false, (gs.take k).map z03⟩]) (fun env _ => [z0r 1 (env 3)]) 0 (by simp) ?_ ?_)
 · (repeat' (first | (simp (disch := omega) only [push_cast, ↓zz, seval, hP]) | (with_reducible first | refine And.intro ?_ ?_ | (first | refine z01 ?_ ?_ | refine z00 ?_ ?_) <;> intro hc <;> (try simp only [push_cast] at hc)) | omega | with_reducible intro _))
 intro k hk
 have hpk := z06 (gs.take k)
 rcases Nat.lt_or_ge k gs.length with hkl | hkl
 · have hC := zno (nth gs k) (by have := hg _ (z0k hkl); omega)
   have e1 : (gs.take (k + 1)).map z03 = (gs.take k).map z03 ++ [z03 (nth gs k)] := by rw [take_at hkl]; simp
   have hlm : ((gs.take k).map z03).length = k := by simp; omega
   generalize hgl : (gs.take k).map z03 = L at *
   refine W_T ?_
   (repeat' (first | (simp (disch := omega) only [push_cast, ↓zz, seval, hP, hpk, hlm]) | (with_reducible first | refine And.intro ?_ ?_ | (first | refine z01 ?_ ?_ | refine z00 ?_ ?_) <;> intro hc <;> (try simp only [push_cast] at hc)) | ((with_reducible first | refine eK hC ?_ | refine eQ hC ?_ | refine eG hC ?_)) | ((with_reducible first | refine cK hC ?_ | refine cQ hC ?_ | refine cG hC ?_); (simp (disch := omega) only [push_cast, ↓zz, seval, hP, hpk, hlm]); (fail_if_success (with_reducible change False))) | omega | with_reducible intro _))
   all_goals
     refine ⟨k + 1, ?_⟩
     (repeat' (first | (simp (disch := omega) only [push_cast, ↓zz, seval, e1]) | (with_reducible first | refine And.intro ?_ ?_ | (first | refine z01 ?_ ?_ | refine z00 ?_ ?_) <;> intro hc <;> (try simp only [push_cast] at hc)) | omega | with_reducible intro _))
 · obtain rfl : k = gs.length := by omega
   have et : List.take gs.length gs = gs := List.take_of_length_le (by simp)
   rw [et] at hpk ⊢
   refine W_T ?_
   (repeat' (first | (simp (disch := omega) only [push_cast, ↓zz, seval, hP, hpk, et]) | (with_reducible first | refine And.intro ?_ ?_ | (first | refine z01 ?_ ?_ | refine z00 ?_ ?_) <;> intro hc <;> (try simp only [push_cast] at hc)) | omega | with_reducible intro _))
   all_goals trace_state
theorem zgl (l : List Term) (hl : l.length ≤ 1000000) (hg : ∀ t ∈ l, t.parts.length ≤ 1000000) : PC Try.prog 49 [z4d l] (z4d l) := by
 have hT := z0w l
 refine z0t zk9 ?_
 unfold zbb
 (repeat' (first | (simp (disch := omega) only [push_cast, ↓zz, seval]) | (with_reducible first | refine And.intro ?_ ?_ | (first | refine z01 ?_ ?_ | refine z00 ?_ ?_) <;> intro hc <;> (try simp only [push_cast] at hc)) | omega | with_reducible intro _))
 refine z0i (z0j (fun (k : Nat) => k ≤ l.length) (fun k => l.length - k)
   (fun k => [(3, .ref 0 1 0 k), (6, z4d l), (7, .int .i64 l.length), (8, .int .i64 k)]) (fun k => [⟨6, 1, false, (l.take k).map z1m⟩]) (fun env _ => [z0r 6 (env 3)]) 0 (by simp) ?_ ?_)
 · (repeat' (first | (simp (disch := omega) only [push_cast, ↓zz, seval, hT]) | (with_reducible first | refine And.intro ?_ ?_ | (first | refine z01 ?_ ?_ | refine z00 ?_ ?_) <;> intro hc <;> (try simp only [push_cast] at hc)) | omega | with_reducible intro _))
 intro k hk
 have hpk := z0w (l.take k)
 rcases Nat.lt_or_ge k l.length with hkl | hkl
 · have hgt := hg _ (z0k hkl)
   have e1 : (l.take (k + 1)).map z1m = (l.take k).map z1m ++ [z1m (nth l k)] := by rw [take_at hkl]; simp
   have hlm : ((l.take k).map z1m).length = k := by simp; omega
   generalize hte : nth l k = t at *
   have hC := zn3 t.parts (by omega)
   have hpp := z63 t.parts
   generalize hgl : (l.take k).map z1m = L at *
   refine W_T ?_
   (repeat' (first | (simp (disch := omega) only [push_cast, ↓zz, seval, hT, hpk, hlm, hte, hpp]) | (with_reducible first | refine And.intro ?_ ?_ | (first | refine z01 ?_ ?_ | refine z00 ?_ ?_) <;> intro hc <;> (try simp only [push_cast] at hc)) | ((with_reducible first | refine eK hC ?_ | refine eQ hC ?_ | refine eG hC ?_)) | ((with_reducible first | refine cK hC ?_ | refine cQ hC ?_ | refine cG hC ?_); (simp (disch := omega) only [push_cast, ↓zz, seval, hT, hpk, hlm, hte, hpp]); (fail_if_success (with_reducible change False))) | omega | with_reducible intro _))
   all_goals
     refine ⟨k + 1, ?_⟩
     (repeat' (first | (simp (disch := omega) only [push_cast, ↓zz, seval, e1]) | (with_reducible first | refine And.intro ?_ ?_ | (first | refine z01 ?_ ?_ | refine z00 ?_ ?_) <;> intro hc <;> (try simp only [push_cast] at hc)) | omega | with_reducible intro _))
 · obtain rfl : k = l.length := by omega
   have et : List.take l.length l = l := List.take_of_length_le (by simp)
   rw [et] at hpk ⊢
   refine W_T ?_
   (repeat' (first | (simp (disch := omega) only [push_cast, ↓zz, seval, hT, hpk, et]) | (with_reducible first | refine And.intro ?_ ?_ | (first | refine z01 ?_ ?_ | refine z00 ?_ ?_) <;> intro hc <;> (try simp only [push_cast] at hc)) | omega | with_reducible intro _))
   all_goals trace_state
end Go.Proofs.Yticodgjinajkpaa
