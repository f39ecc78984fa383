/-
  The document's guards and terms, how great a description is: the walk.
  What is wrong first with a description, as the document says it; the law DescWheres.
  The law DescWheres.
  The law DescSpoilt.
-/
import Derived.Test.YticodgjinajkpaaDA8
set_option linter.unusedSimpArgs false
set_option linter.unusedVariables false
namespace Go.Proofs.Yticodgjinajkpaa
open Abs
theorem y7i {α : Type} [Inhabited α] {p : α → Bool} {l : List α} {k : Nat} (h : k < l.length) : (l.drop k).all p = (p (nth l k) && (l.drop (k + 1)).all p) := by rw [z2a h, List.all_cons]
theorem zci (i : Int) (gs : List (List Span)) (hl : gs.length ≤ 9223372036854775807) : PC Try.prog 35 [.int .i64 i, z0b gs] (.bool (z2o i gs)) := by
 have hP := z06 gs
 have hD := zch i
 refine z0t zfk ?_
 unfold z8o
 (repeat' (first | (simp (disch := omega) only [push_cast, ↓zz, seval]) | (with_reducible first | refine And.intro ?_ ?_ | (first | refine z01 ?_ ?_ | refine z00 ?_ ?_) <;> intro hc <;> (try simp only [push_cast] at hc)) | omega | with_reducible intro _))
 refine z0i (z0j (fun (k : Nat) => k ≤ gs.length ∧ gs.all (z7s i) = (gs.drop k).all (z7s i)) (fun k => gs.length - k)
   (fun k => [(0, .int .i64 i), (1, z0b gs), (5, .int .i64 k)]) (fun k => []) (fun _ _ => []) 0 ⟨by simp, rfl⟩ ?_ ?_)
 · (repeat' (first | (simp (disch := omega) only [push_cast, ↓zz, seval, hP]) | (with_reducible first | refine And.intro ?_ ?_ | (first | refine z01 ?_ ?_ | refine z00 ?_ ?_) <;> intro hc <;> (try simp only [push_cast] at hc)) | omega | with_reducible intro _))
 rintro k ⟨k1, k2⟩
 rcases Nat.lt_or_ge k gs.length with hk | hk
 · rw [y7i hk, ← zhi, zr1] at k2
   generalize hge : nth gs k = g at *
   have hpg := z2e g
   have hno : z2o i gs = (decide ((gs.length : Int) ≤ 4) && gs.all (z7s i)) := rfl
   rw [hno]
   refine W_T ?_
   by_cases g1 : g.length ≠ 0 ∧ g.length ≤ 64
   · rw [decide_eq_true g1.1, decide_eq_true g1.2, Bool.true_and, Bool.true_and] at k2
     have hN := z8d g (by omega)
     have hS := zsi g (z0d g) (by omega)
     have hM := zbd g (domL i) 2 (by omega) (by have := zjd i; omega)
     rw [zgz] at hM
     have hlen : (z44 g (domL i)).length ≤ 9223372036854775807 ∨ True := .inr trivial
     by_cases h2 : g = z0d g
     · rw [decide_eq_true h2] at hS
       rw [decide_eq_true h2, Bool.true_and] at k2
       by_cases h3 : z44 g (domL i) = []
       · rw [h3] at hM
         rw [decide_eq_true h3, Bool.true_and] at k2
         (repeat' (first | (simp (disch := omega) only [push_cast, ↓zz, seval, hP, hge, hpg]) | (with_reducible first | refine And.intro ?_ ?_ | (first | refine z01 ?_ ?_ | refine z00 ?_ ?_) <;> intro hc <;> (try simp only [push_cast] at hc)) | ((with_reducible first | refine eK hN ?_ | refine eQ hN ?_ | refine eG hN ?_)) | ((with_reducible first | refine eK hS ?_ | refine eQ hS ?_ | refine eG hS ?_)) | ((with_reducible first | refine eK hD ?_ | refine eQ hD ?_ | refine eG hD ?_)) | ((with_reducible first | refine eK hM ?_ | refine eQ hM ?_ | refine eG hM ?_)) | ((with_reducible first | refine cK hN ?_ | refine cQ hN ?_ | refine cG hN ?_); (simp (disch := omega) only [push_cast, ↓zz, seval, hP, hge, hpg]); (fail_if_success (with_reducible change False))) | ((with_reducible first | refine cK hS ?_ | refine cQ hS ?_ | refine cG hS ?_); (simp (disch := omega) only [push_cast, ↓zz, seval, hP, hge, hpg]); (fail_if_success (with_reducible change False))) | ((with_reducible first | refine cK hD ?_ | refine cQ hD ?_ | refine cG hD ?_); (simp (disch := omega) only [push_cast, ↓zz, seval, hP, hge, hpg]); (fail_if_success (with_reducible change False))) | ((with_reducible first | refine cK hM ?_ | refine cQ hM ?_ | refine cG hM ?_); (simp (disch := omega) only [push_cast, ↓zz, seval, hP, hge, hpg]); (fail_if_success (with_reducible change False))) | omega | with_reducible intro _))
         all_goals first
           | exact ⟨k + 1, by push_cast, ⟨by omega, k2⟩, by omega⟩
           | trace_state
       · have hpos := List.length_pos_iff.2 h3
         rw [decide_eq_false h3, Bool.false_and] at k2
         rw [k2, Bool.and_false]
         generalize z44 g (domL i) = m at *
         (repeat' (first | (simp (disch := omega) only [push_cast, ↓zz, seval, hP, hge, hpg]) | (with_reducible first | refine And.intro ?_ ?_ | (first | refine z01 ?_ ?_ | refine z00 ?_ ?_) <;> intro hc <;> (try simp only [push_cast] at hc)) | ((with_reducible first | refine eK hN ?_ | refine eQ hN ?_ | refine eG hN ?_)) | ((with_reducible first | refine eK hS ?_ | refine eQ hS ?_ | refine eG hS ?_)) | ((with_reducible first | refine eK hD ?_ | refine eQ hD ?_ | refine eG hD ?_)) | ((with_reducible first | refine eK hM ?_ | refine eQ hM ?_ | refine eG hM ?_)) | ((with_reducible first | refine cK hN ?_ | refine cQ hN ?_ | refine cG hN ?_); (simp (disch := omega) only [push_cast, ↓zz, seval, hP, hge, hpg]); (fail_if_success (with_reducible change False))) | ((with_reducible first | refine cK hS ?_ | refine cQ hS ?_ | refine cG hS ?_); (simp (disch := omega) only [push_cast, ↓zz, seval, hP, hge, hpg]); (fail_if_success (with_reducible change False))) | ((with_reducible first | refine cK hD ?_ | refine cQ hD ?_ | refine cG hD ?_); (simp (disch := omega) only [push_cast, ↓zz, seval, hP, hge, hpg]); (fail_if_success (with_reducible change False))) | ((with_reducible first | refine cK hM ?_ | refine cQ hM ?_ | refine cG hM ?_); (simp (disch := omega) only [push_cast, ↓zz, seval, hP, hge, hpg]); (fail_if_success (with_reducible change False))) | omega | with_reducible intro _))
     · rw [decide_eq_false h2] at hS
       rw [decide_eq_false h2, Bool.false_and, Bool.false_and] at k2
       rw [k2, Bool.and_false]
       (repeat' (first | (simp (disch := omega) only [push_cast, ↓zz, seval, hP, hge, hpg]) | (with_reducible first | refine And.intro ?_ ?_ | (first | refine z01 ?_ ?_ | refine z00 ?_ ?_) <;> intro hc <;> (try simp only [push_cast] at hc)) | ((with_reducible first | refine eK hN ?_ | refine eQ hN ?_ | refine eG hN ?_)) | ((with_reducible first | refine eK hS ?_ | refine eQ hS ?_ | refine eG hS ?_)) | ((with_reducible first | refine cK hN ?_ | refine cQ hN ?_ | refine cG hN ?_); (simp (disch := omega) only [push_cast, ↓zz, seval, hP, hge, hpg]); (fail_if_success (with_reducible change False))) | ((with_reducible first | refine cK hS ?_ | refine cQ hS ?_ | refine cG hS ?_); (simp (disch := omega) only [push_cast, ↓zz, seval, hP, hge, hpg]); (fail_if_success (with_reducible change False))) | omega | with_reducible intro _))
   · have : (decide (g.length ≠ 0) && (decide (g.length ≤ 64) && (decide (g = z0d g) && decide (z44 g (domL i) = [])))) = false := by
       by_cases h : g.length ≠ 0
       · rw [decide_eq_false (p := g.length ≤ 64) (by omega), Bool.false_and, Bool.and_false]
       · rw [decide_eq_false h, Bool.false_and]
     rw [this, Bool.false_and] at k2
     rw [k2, Bool.and_false]
     (repeat' (first | (simp (disch := omega) only [push_cast, ↓zz, seval, hP, hge, hpg]) | (with_reducible first | refine And.intro ?_ ?_ | (first | refine z01 ?_ ?_ | refine z00 ?_ ?_) <;> intro hc <;> (try simp only [push_cast] at hc)) | omega | with_reducible intro _))
 · rw [List.drop_of_length_le hk, List.all_nil] at k2
   have hno : z2o i gs = decide ((gs.length : Int) ≤ 4) := by rw [z2o, k2, Bool.and_true]
   rw [hno]
   refine W_T ?_
   (repeat' (first | (simp (disch := omega) only [push_cast, ↓zz, seval, hP]) | (with_reducible first | refine And.intro ?_ ?_ | (first | refine z01 ?_ ?_ | refine z00 ?_ ?_) <;> intro hc <;> (try simp only [push_cast] at hc)) | omega | with_reducible intro _))
   all_goals trace_state
theorem z7v (d : Desc) (out : List Term) (gs : List (List Span)) (ho : ∀ t ∈ out, t.parts.length < 1000000000000) (hG : GOk d.in_ gs) :
   PC Try.prog 36 [z1z d, z4h out, z0b gs] (.bool (z2t d out gs)) := by
 have hP := z06 gs
 have hT := z0w out
 refine z0t zfl ?_
 unfold z8p
 by_cases h4 : 64 < out.length
 · rw [z2t, decide_eq_false (by omega), Bool.false_and]
   (repeat' (first | (simp (disch := omega) only [push_cast, ↓zz, seval]) | (with_reducible first | refine And.intro ?_ ?_ | (first | refine z01 ?_ ?_ | refine z00 ?_ ?_) <;> intro hc <;> (try simp only [push_cast] at hc)) | omega | with_reducible intro _))
   refine z0i (z0j (fun (k : Nat) => k = 0) (fun k => 0)
     (fun k => [(1, z4h out), (2, z0b gs), (3, .ptr 0 1 0 0), (7, .int .i64 k)]) (fun s => [⟨6, 1, true, [z1z d]⟩]) (fun env _ => [z0r 1 (env 3)]) 0 rfl ?_ ?_)
   · (repeat' (first | (simp (disch := omega) only [push_cast, ↓zz, seval, hP, hT]) | (with_reducible first | refine And.intro ?_ ?_ | (first | refine z01 ?_ ?_ | refine z00 ?_ ?_) <;> intro hc <;> (try simp only [push_cast] at hc)) | omega | with_reducible intro _))
   rintro k rfl
   refine W_T ?_
   (repeat' (first | (simp (disch := omega) only [push_cast, ↓zz, seval, hP, hT]) | (with_reducible first | refine And.intro ?_ ?_ | (first | refine z01 ?_ ?_ | refine z00 ?_ ?_) <;> intro hc <;> (try simp only [push_cast] at hc)) | omega | with_reducible intro _))
 rw [z2t, decide_eq_true (by omega), Bool.true_and]
 (repeat' (first | (simp (disch := omega) only [push_cast, ↓zz, seval]) | (with_reducible first | refine And.intro ?_ ?_ | (first | refine z01 ?_ ?_ | refine z00 ?_ ?_) <;> intro hc <;> (try simp only [push_cast] at hc)) | omega | with_reducible intro _))
 refine z0i (z0j (fun (k : Nat) => k ≤ out.length ∧ (out.all fun t => zck t d.in_ d.out gs) = (out.drop k).all fun t => zck t d.in_ d.out gs) (fun k => out.length - k)
   (fun k => [(1, z4h out), (2, z0b gs), (3, .ptr 0 1 0 0), (7, .int .i64 k)]) (fun s => [⟨6, 1, true, [z1z d]⟩]) (fun env _ => [z0r 1 (env 3)]) 0 ⟨by simp, rfl⟩ ?_ ?_)
 · (repeat' (first | (simp (disch := omega) only [push_cast, ↓zz, seval, hP, hT]) | (with_reducible first | refine And.intro ?_ ?_ | (first | refine z01 ?_ ?_ | refine z00 ?_ ?_) <;> intro hc <;> (try simp only [push_cast] at hc)) | omega | with_reducible intro _))
 rintro k ⟨h1, h2⟩
 rcases Nat.lt_or_ge k out.length with hk | hk
 · rw [z2a hk, List.all_cons] at h2
   have hF := ztm (nth out k) d.in_ d.out gs (ho _ (z0k hk)) hG
   rw [zyb hG] at hF
   refine W_T ?_
   (repeat' (first | (simp (disch := omega) only [push_cast, ↓zz, seval, hP, hT]) | (with_reducible first | refine And.intro ?_ ?_ | (first | refine z01 ?_ ?_ | refine z00 ?_ ?_) <;> intro hc <;> (try simp only [push_cast] at hc)) | ((with_reducible first | refine eK hF ?_ | refine eQ hF ?_ | refine eG hF ?_)) | ((with_reducible first | refine cK hF ?_ | refine cQ hF ?_ | refine cG hF ?_); (simp (disch := omega) only [push_cast, ↓zz, seval, hP, hT]); (fail_if_success (with_reducible change False))) | omega | with_reducible intro _))
   all_goals first
     | (rw [h2]; simp [*]; done)
     | exact ⟨k + 1, by push_cast, ⟨by omega, by rw [h2]; simp [*]⟩, by omega⟩
 · rw [List.drop_of_length_le hk, List.all_nil] at h2
   refine W_T ?_
   (repeat' (first | (simp (disch := omega) only [push_cast, ↓zz, seval, hP, hT, h2]) | (with_reducible first | refine And.intro ?_ ?_ | (first | refine z01 ?_ ?_ | refine z00 ?_ ?_) <;> intro hc <;> (try simp only [push_cast] at hc)) | omega | with_reducible intro _))
   all_goals trace_state
def sumT {α : Type} (f : α → Int) (l : List α) : Int := (l.map f).sum
theorem zjl {α : Type} [Inhabited α] {f : α → Int} {l : List α} {k : Nat} (h : k < l.length) : sumT f (l.take (k + 1)) = sumT f (l.take k) + f (nth l k) := by rw [z1t h]; simp [sumT]
theorem z4p {α : Type} {f : α → Int} {B : Int} (hf : ∀ x, 0 ≤ f x ∧ f x ≤ B) : ∀ l : List α, 0 ≤ sumT f l ∧ sumT f l ≤ l.length * B
 | [] => by simp [sumT]
 | x :: l => by
   have h1 := z4p hf l
   have h2 := hf x
   have e : sumT f (x :: l) = f x + sumT f l := by simp [sumT]
   have e2 : ((x :: l).length : Int) * B = l.length * B + B := by push_cast [List.length_cons]; rw [Int.add_mul, Int.one_mul]
   omega
theorem z73 {α : Type} {f : α → Int} (hf : ∀ x, 0 ≤ f x) : ∀ {l : List α} {x : α}, x ∈ l → f x ≤ sumT f l
 | y :: l, x, h => by
   have e : sumT f (y :: l) = f y + sumT f l := by simp [sumT]
   have hn : ∀ m : List α, 0 ≤ sumT f m := fun m => by
     induction m with
     | nil => simp [sumT]
     | cons z m ih =>
       have e : sumT f (z :: m) = f z + sumT f m := by simp [sumT]
       have := hf z
       omega
   have h1 := hf y
   have h2 := hn l
   rcases List.mem_cons.1 h with rfl | h
   · omega
   · have := z73 hf h
     omega
def szG (g : List Span) : Int := min (g.length : Int) 4000
def szT (t : Term) : Int := 1 + min (t.parts.length : Int) 4000
theorem zr2 (g : List Span) : 0 ≤ szG g ∧ szG g ≤ 4000 := by unfold szG; omega
theorem zr3 (t : Term) : 0 ≤ szT t ∧ szT t ≤ 4001 := by unfold szT; omega
def z5q (gs : List (List Span)) (out : List Term) : Int := if 100 < gs.length ∨ 200 < out.length then 4000 else 1 + sumT szG gs + sumT szT out
theorem zhj (gs : List (List Span)) (out : List Term) : PC Try.prog 27 [z0b gs, z4h out] (.int .i64 (z5q gs out)) := by
 have hP := z06 gs
 have hT := z0w out
 refine z0t zkp ?_
 unfold zbo
 by_cases hb : 100 < gs.length ∨ 200 < out.length
 · rw [z5q, if_pos hb]
   (repeat' (first | (simp (disch := omega) only [push_cast, ↓zz, seval, hP, hT]) | (with_reducible first | refine And.intro ?_ ?_ | (first | refine z01 ?_ ?_ | refine z00 ?_ ?_) <;> intro hc <;> (try simp only [push_cast] at hc)) | omega | with_reducible intro _))
 rw [z5q, if_neg hb]
 (repeat' (first | (simp (disch := omega) only [push_cast, ↓zz, seval, hP, hT]) | (with_reducible first | refine And.intro ?_ ?_ | (first | refine z01 ?_ ?_ | refine z00 ?_ ?_) <;> intro hc <;> (try simp only [push_cast] at hc)) | omega | with_reducible intro _))
 refine z0i (z0j (fun (k : Nat) => k ≤ gs.length) (fun k => gs.length - k)
   (fun k => [(0, z0b gs), (1, z4h out), (5, .int .i64 (1 + sumT szG (gs.take k))), (6, .int .i64 k)]) (fun k => []) (fun _ _ => []) 0 (by simp) ?_ ?_)
 · have e0 : sumT szG ([] : List (List Span)) = 0 := rfl
   (repeat' (first | (simp (disch := omega) only [push_cast, ↓zz, seval, hP, hT, e0]) | (with_reducible first | refine And.intro ?_ ?_ | (first | refine z01 ?_ ?_ | refine z00 ?_ ?_) <;> intro hc <;> (try simp only [push_cast] at hc)) | omega | with_reducible intro _))
 intro k hk
 have hb1 := z4p zr2 (gs.take k)
 have hb2 : ((gs.take k).length : Int) * 4000 ≤ 100 * 4000 := Int.mul_le_mul_of_nonneg_right (by simp; omega) (by omega)
 rcases Nat.lt_or_ge k gs.length with hkl | hkl
 · have hst := zjl (f := szG) hkl
   have hx := zr2 (nth gs k)
   have hsz : min ((nth gs k).length : Int) 4000 = szG (nth gs k) := rfl
   generalize hge : nth gs k = g at *
   generalize sumT szG (gs.take k) = n at *
   have hw : IntKind.i64.wrap (1 + n + szG g) = 1 + n + szG g := IntWalk.i64_in _ (by omega)
   refine W_T ?_
   (repeat' (first | (simp (disch := omega) only [push_cast, ↓zz, seval, hP, hT, hge, hsz, hw]) | (with_reducible first | refine And.intro ?_ ?_ | (first | refine z01 ?_ ?_ | refine z00 ?_ ?_) <;> intro hc <;> (try simp only [push_cast] at hc)) | omega | with_reducible intro _))
   all_goals
     refine ⟨k + 1, ?_⟩
     (repeat' (first | (simp (disch := omega) only [push_cast, ↓zz, seval, hst]) | (with_reducible first | refine And.intro ?_ ?_ | (first | refine z01 ?_ ?_ | refine z00 ?_ ?_) <;> intro hc <;> (try simp only [push_cast] at hc)) | omega | with_reducible intro _))
   all_goals first
     | omega
     | trace_state
 · have hkt : gs.take k = gs := List.take_of_length_le hkl
   rw [hkt] at hb1 hb2 ⊢
   generalize sumT szG gs = n at *
   refine W_T ?_
   (repeat' (first | (simp (disch := omega) only [push_cast, ↓zz, seval, hP, hT]) | (with_reducible first | refine And.intro ?_ ?_ | (first | refine z01 ?_ ?_ | refine z00 ?_ ?_) <;> intro hc <;> (try simp only [push_cast] at hc)) | omega | with_reducible intro _))
   refine z0i (z0j (fun (k : Nat) => k ≤ out.length) (fun k => out.length - k)
     (fun k => [(1, z4h out), (5, .int .i64 (1 + n + sumT szT (out.take k))), (7, .int .i64 k)]) (fun k => []) (fun _ _ => []) 0 (by simp) ?_ ?_)
   · have e0 : sumT szT ([] : List Term) = 0 := rfl
     (repeat' (first | (simp (disch := omega) only [push_cast, ↓zz, seval, hP, hT, e0, Int.add_zero]) | (with_reducible first | refine And.intro ?_ ?_ | (first | refine z01 ?_ ?_ | refine z00 ?_ ?_) <;> intro hc <;> (try simp only [push_cast] at hc)) | omega | with_reducible intro _))
   intro j hj
   have hb3 := z4p zr3 (out.take j)
   have hb4 : ((out.take j).length : Int) * 4001 ≤ 200 * 4001 := Int.mul_le_mul_of_nonneg_right (by simp; omega) (by omega)
   rcases Nat.lt_or_ge j out.length with hjl | hjl
   · have hst := zjl (f := szT) hjl
     have hx := zr3 (nth out j)
     have hsz : szT (nth out j) = 1 + min ((nth out j).parts.length : Int) 4000 := rfl
     generalize hge : nth out j = t at *
     generalize sumT szT (out.take j) = m at *
     generalize hze : min (t.parts.length : Int) 4000 = z at *
     have hw : IntKind.i64.wrap (1 + n + m + 1) = 1 + n + m + 1 := IntWalk.i64_in _ (by omega)
     have hw2 : IntKind.i64.wrap (1 + n + m + 1 + z) = 1 + n + m + 1 + z := IntWalk.i64_in _ (by omega)
     refine W_T ?_
     (repeat' (first | (simp (disch := omega) only [push_cast, ↓zz, seval, hP, hT, hge, hze, hw, hw2]) | (with_reducible first | refine And.intro ?_ ?_ | (first | refine z01 ?_ ?_ | refine z00 ?_ ?_) <;> intro hc <;> (try simp only [push_cast] at hc)) | omega | with_reducible intro _))
     all_goals
       refine ⟨j + 1, ?_⟩
       (repeat' (first | (simp (disch := omega) only [push_cast, ↓zz, seval, hst]) | (with_reducible first | refine And.intro ?_ ?_ | (first | refine z01 ?_ ?_ | refine z00 ?_ ?_) <;> intro hc <;> (try simp only [push_cast] at hc)) | omega | with_reducible intro _))
     all_goals first
       | omega
       | trace_state
   · have hjt : out.take j = out := List.take_of_length_le hjl
     rw [hjt]
     refine W_T ?_
     (repeat' (first | (simp (disch := omega) only [push_cast, ↓zz, seval, hP, hT]) | (with_reducible first | refine And.intro ?_ ?_ | (first | refine z01 ?_ ?_ | refine z00 ?_ ?_) <;> intro hc <;> (try simp only [push_cast] at hc)) | omega | with_reducible intro _))
     all_goals trace_state
theorem z7w (gs : List (List Span)) (out : List Term) : 0 ≤ z5q gs out ∧ z5q gs out ≤ 2000000 := by
 unfold z5q
 have h1 := z4p zr2 gs
 have h2 := z4p zr3 out
 split
 · omega
 · omega
def szR (r : Rule) : Int := z5q r.guards r.out
def szF (f : z7a) : Int := z5q f.guards f.out
def z79 (d : Desc) : Bool := decide (d.rules.length ≤ 80 ∧ d.finals.length ≤ 80) && decide (sumT szR d.rules + sumT szF d.finals ≤ 1500)
theorem zfc (d : Desc) : PC Try.prog 10 [z1z d] (.bool (z79 d)) := by
 have hPr := z1h d.rules
 have hPf := z1w d.finals
 have sR : ∀ r, 0 ≤ szR r ∧ szR r ≤ 2000000 := fun r => z7w _ _
 have sF : ∀ f, 0 ≤ szF f ∧ szF f ≤ 2000000 := fun r => z7w _ _
 refine z0t zi6 ?_
 unfold z9v
 by_cases hb : d.rules.length ≤ 80 ∧ d.finals.length ≤ 80
 · rw [z79, decide_eq_true hb, Bool.true_and]
   (repeat' (first | (simp (disch := omega) only [push_cast, ↓zz, seval]) | (with_reducible first | refine And.intro ?_ ?_ | (first | refine z01 ?_ ?_ | refine z00 ?_ ?_) <;> intro hc <;> (try simp only [push_cast] at hc)) | omega | with_reducible intro _))
   refine z0i (z0j (fun (k : Nat) => k ≤ d.rules.length) (fun k => d.rules.length - k)
     (fun k => [(1, .ptr 0 1 0 0), (3, .int .i64 (sumT szR (d.rules.take k))), (4, .int .i64 k)]) (fun k => [⟨6, 1, true, [z1z d]⟩]) (fun env _ => [z0r 1 (env 1)]) 0 (by simp) ?_ ?_)
   · have e0 : sumT szR ([] : List Rule) = 0 := rfl
     (repeat' (first | (simp (disch := omega) only [push_cast, ↓zz, seval, hPr, hPf, e0]) | (with_reducible first | refine And.intro ?_ ?_ | (first | refine z01 ?_ ?_ | refine z00 ?_ ?_) <;> intro hc <;> (try simp only [push_cast] at hc)) | omega | with_reducible intro _))
   intro k hk
   have hb1 := z4p sR (d.rules.take k)
   have hb2 : ((d.rules.take k).length : Int) * 2000000 ≤ 80 * 2000000 := Int.mul_le_mul_of_nonneg_right (by simp; omega) (by omega)
   rcases Nat.lt_or_ge k d.rules.length with hkl | hkl
   · have hst := zjl (f := szR) hkl
     have hx := sR (nth d.rules k)
     have hS := zhj (nth d.rules k).guards (nth d.rules k).out
     have hsz : z5q (nth d.rules k).guards (nth d.rules k).out = szR (nth d.rules k) := rfl
     rw [hsz] at hS
     generalize hge : nth d.rules k = r at *
     generalize sumT szR (d.rules.take k) = n at *
     have hw : IntKind.i64.wrap (n + szR r) = n + szR r := IntWalk.i64_in _ (by omega)
     have hpg := z06 r.guards
     have hpt := z0w r.out
     refine W_T ?_
     (repeat' (first | (simp (disch := omega) only [push_cast, ↓zz, seval, hPr, hPf, hge, hw, hpg, hpt]) | (with_reducible first | refine And.intro ?_ ?_ | (first | refine z01 ?_ ?_ | refine z00 ?_ ?_) <;> intro hc <;> (try simp only [push_cast] at hc)) | ((with_reducible first | refine eK hS ?_ | refine eQ hS ?_ | refine eG hS ?_)) | ((with_reducible first | refine cK hS ?_ | refine cQ hS ?_ | refine cG hS ?_); (simp (disch := omega) only [push_cast, ↓zz, seval, hPr, hPf, hge, hw, hpg, hpt]); (fail_if_success (with_reducible change False))) | omega | with_reducible intro _))
     all_goals
       refine ⟨k + 1, ?_⟩
       (repeat' (first | (simp (disch := omega) only [push_cast, ↓zz, seval, hst]) | (with_reducible first | refine And.intro ?_ ?_ | (first | refine z01 ?_ ?_ | refine z00 ?_ ?_) <;> intro hc <;> (try simp only [push_cast] at hc)) | omega | with_reducible intro _))
   · have hkt : d.rules.take k = d.rules := List.take_of_length_le hkl
     rw [hkt] at hb1 hb2 ⊢
     generalize sumT szR d.rules = n at *
     refine W_T ?_
     (repeat' (first | (simp (disch := omega) only [push_cast, ↓zz, seval, hPr, hPf]) | (with_reducible first | refine And.intro ?_ ?_ | (first | refine z01 ?_ ?_ | refine z00 ?_ ?_) <;> intro hc <;> (try simp only [push_cast] at hc)) | omega | with_reducible intro _))
     refine z0i (z0j (fun (k : Nat) => k ≤ d.finals.length) (fun k => d.finals.length - k)
       (fun k => [(1, .ptr 0 1 0 0), (3, .int .i64 (n + sumT szF (d.finals.take k))), (5, .int .i64 k)]) (fun k => [⟨6, 1, true, [z1z d]⟩]) (fun env _ => [z0r 1 (env 1)]) 0 (by simp) ?_ ?_)
     · have e0 : sumT szF ([] : List z7a) = 0 := rfl
       (repeat' (first | (simp (disch := omega) only [push_cast, ↓zz, seval, hPr, hPf, e0, Int.add_zero]) | (with_reducible first | refine And.intro ?_ ?_ | (first | refine z01 ?_ ?_ | refine z00 ?_ ?_) <;> intro hc <;> (try simp only [push_cast] at hc)) | omega | with_reducible intro _))
     intro j hj
     have hb3 := z4p sF (d.finals.take j)
     have hb4 : ((d.finals.take j).length : Int) * 2000000 ≤ 80 * 2000000 := Int.mul_le_mul_of_nonneg_right (by simp; omega) (by omega)
     rcases Nat.lt_or_ge j d.finals.length with hjl | hjl
     · have hst := zjl (f := szF) hjl
       have hx := sF (nth d.finals j)
       have hS := zhj (nth d.finals j).guards (nth d.finals j).out
       have hsz : z5q (nth d.finals j).guards (nth d.finals j).out = szF (nth d.finals j) := rfl
       rw [hsz] at hS
       generalize hge : nth d.finals j = f at *
       generalize sumT szF (d.finals.take j) = m at *
       have hw : IntKind.i64.wrap (n + m + szF f) = n + m + szF f := IntWalk.i64_in _ (by omega)
       have hpg := z06 f.guards
       have hpt := z0w f.out
       refine W_T ?_
       (repeat' (first | (simp (disch := omega) only [push_cast, ↓zz, seval, hPr, hPf, hge, hw, hpg, hpt]) | (with_reducible first | refine And.intro ?_ ?_ | (first | refine z01 ?_ ?_ | refine z00 ?_ ?_) <;> intro hc <;> (try simp only [push_cast] at hc)) | ((with_reducible first | refine eK hS ?_ | refine eQ hS ?_ | refine eG hS ?_)) | ((with_reducible first | refine cK hS ?_ | refine cQ hS ?_ | refine cG hS ?_); (simp (disch := omega) only [push_cast, ↓zz, seval, hPr, hPf, hge, hw, hpg, hpt]); (fail_if_success (with_reducible change False))) | omega | with_reducible intro _))
       all_goals
         refine ⟨j + 1, ?_⟩
         (repeat' (first | (simp (disch := omega) only [push_cast, ↓zz, seval, hst]) | (with_reducible first | refine And.intro ?_ ?_ | (first | refine z01 ?_ ?_ | refine z00 ?_ ?_) <;> intro hc <;> (try simp only [push_cast] at hc)) | omega | with_reducible intro _))
       all_goals first
         | omega
         | trace_state
     · have hjt : d.finals.take j = d.finals := List.take_of_length_le hjl
       rw [hjt]
       refine W_T ?_
       (repeat' (first | (simp (disch := omega) only [push_cast, ↓zz, seval, hPr, hPf]) | (with_reducible first | refine And.intro ?_ ?_ | (first | refine z01 ?_ ?_ | refine z00 ?_ ?_) <;> intro hc <;> (try simp only [push_cast] at hc)) | omega | with_reducible intro _))
 · rw [z79, decide_eq_false hb, Bool.false_and]
   (repeat' (first | (simp (disch := omega) only [push_cast, ↓zz, seval]) | (with_reducible first | refine And.intro ?_ ?_ | (first | refine z01 ?_ ?_ | refine z00 ?_ ?_) <;> intro hc <;> (try simp only [push_cast] at hc)) | omega | with_reducible intro _))
   all_goals trace_state
theorem zhk {gs : List (List Span)} {out : List Term} (h : z5q gs out ≤ 1500) : ∀ t ∈ out, t.parts.length < 4000 := by
 unfold z5q at h
 split at h
 · omega
 · intro t ht
   have h1 := z73 (fun t => (zr3 t).1) ht
   have h2 := (z4p zr2 gs).1
   have h3 : szT t = 1 + min (t.parts.length : Int) 4000 := rfl
   omega
theorem zyc {d : Desc} (h : z79 d = true) : z71 d := by
 simp only [z79, Bool.and_eq_true, decide_eq_true_eq] at h
 have sR : ∀ r, 0 ≤ szR r ∧ szR r ≤ 2000000 := fun r => z7w _ _
 have sF : ∀ f, 0 ≤ szF f ∧ szF f ≤ 2000000 := fun r => z7w _ _
 have a1 := (z4p sR d.rules).1
 have a2 := (z4p sF d.finals).1
 refine ⟨fun r hr t ht => ?_, fun f hf t ht => ?_⟩
 · have h1 := z73 (fun r => (sR r).1) hr
   have h2 : szR r = z5q r.guards r.out := rfl
   have := zhk (gs := r.guards) (out := r.out) (by omega) t ht
   omega
 · have h1 := z73 (fun r => (sF r).1) hf
   have h2 : szF f = z5q f.guards f.out := rfl
   have := zhk (gs := f.guards) (out := f.out) (by omega) t ht
   omega
theorem y7j {s : Int} : 0 < ((domL s).length : Int) ↔ (s = 1 ∨ s = 2) := by
 unfold domL
 split
 · simp [*]
 · split
   · simp [*]
   · simp [*]
theorem y2i {d : Desc} : zeu d = true ↔ (d.in_ = 1 ∨ d.in_ = 2) ∧ (d.out = 1 ∨ d.out = 2) ∧ (1 ≤ d.states ∧ d.states ≤ 1024) ∧ (0 ≤ d.start ∧ d.start < d.states) ∧ d.rules.length ≤ 4096 ∧ d.finals.length ≤ 4096 := by
 simp only [zeu, z5v, Bool.and_eq_true, decide_eq_true_eq, y7j]
 omega
def zfd (d : Desc) (r : Rule) : Prop := (0 ≤ r.from_ ∧ r.from_ < d.states) ∧ (0 ≤ r.to_ ∧ r.to_ < d.states) ∧ ((r.guards.length : Int) = 0 ∧ r.eat = 0 ∨ 1 ≤ r.eat ∧ r.eat ≤ r.guards.length)
theorem y2j {d : Desc} {r : Rule} : z4o d r = true ↔ zfd d r ∧ z2o d.in_ r.guards = true ∧ z2t d r.out r.guards = true := by
 simp only [z4o, z5v, eatB, zfd, Bool.and_eq_true, Bool.not_eq_true', decide_eq_true_eq, decide_eq_false_iff_not]
 constructor
 · rintro ⟨h1, h2, h3, h4, h5⟩
   exact ⟨⟨h1, h2, by omega⟩, h3, h5⟩
 · rintro ⟨⟨h1, h2, h4⟩, h3, h5⟩
   exact ⟨h1, h2, h3, by omega, h5⟩
theorem zyd {d : Desc} {f : z7a} : z3c d f = true ↔ (0 ≤ f.from_ ∧ f.from_ < d.states) ∧ z2o d.in_ f.guards = true ∧ z2t d f.out f.guards = true := by
 simp only [z3c, z5v, Bool.and_eq_true, decide_eq_true_eq]
structure z5o (d : Desc) : Prop where
 fin : z71 d
 rg : ∀ r ∈ d.rules, r.guards.length ≤ 9223372036854775807
 fg : ∀ f ∈ d.finals, f.guards.length ≤ 9223372036854775807
structure Hold (p : Prop) : Prop where
 get : p
theorem share {P Q : Prop} (main : Hold P → Q) (k : Hold P) : Q := main k
set_option maxHeartbeats 4000000 in
set_option maxRecDepth 8000 in
theorem zfe (d : Desc) (hs : z5o d) : PC Try.prog 13 [z1z d] (.tup [.int .i64 (z3p d).1, .int .i64 (z3p d).2]) := by
 have hPr := z1h d.rules
 have hPf := z1w d.finals
 have hhi := @y2i d
 refine z0t zi8 ?_
 unfold z9x
 cases hh : zeu d with
 | false =>
   rw [z3p, if_pos hh]
   have hno : ¬ ((d.in_ = 1 ∨ d.in_ = 2) ∧ (d.out = 1 ∨ d.out = 2) ∧ (1 ≤ d.states ∧ d.states ≤ 1024) ∧ (0 ≤ d.start ∧ d.start < d.states) ∧ d.rules.length ≤ 4096 ∧ d.finals.length ≤ 4096) := fun h => by rw [hhi.2 h] at hh; cases hh
   clear hhi
   (repeat' (first | (simp (disch := omega) only [push_cast, ↓zz, seval]) | (with_reducible first | refine And.intro ?_ ?_ | (first | refine z01 ?_ ?_ | refine z00 ?_ ?_) <;> intro hc <;> (try simp only [push_cast] at hc)) | omega | with_reducible intro _))
   all_goals first
     | (exfalso; omega)
     | ((repeat' (first | (simp (disch := omega) only [push_cast, ↓zz, seval, z1f]) | omega | (with_reducible refine And.intro ?_ ?_))); done)
     | trace_state
 | true =>
 obtain ⟨i1, i2, i3, i4, i5, i6⟩ := hhi.1 hh
 clear hhi
 have hW : z3p d = match z4s (z4o d) d.rules 0 with
   | some i => (2, (i : Int))
   | none => match z4s (z3c d) d.finals 0 with
     | some i => (3, (i : Int))
     | none => if (@decide (cycP d.rules d.states.toNat) (Classical.propDecidable _)) = true then (4, 0) else (0, 0) := by
   rw [z3p, if_neg (by simp [hh])]
   cases z4s (z4o d) d.rules 0 with
   | some i => rfl
   | none =>
     cases z4s (z3c d) d.finals 0 with
     | some i => rfl
     | none =>
       by_cases hc : cycP d.rules d.states.toNat
       · simp only [if_pos hc, @decide_eq_true _ (Classical.propDecidable _) hc, if_true]
       · simp only [if_neg hc, @decide_eq_false _ (Classical.propDecidable _) hc, Bool.false_eq_true, if_false]
 apply share
 · intro key
   (repeat' (first | (simp (disch := omega) only [push_cast, ↓zz, seval]) | (with_reducible first | refine And.intro ?_ ?_ | (first | refine z01 ?_ ?_ | refine z00 ?_ ?_) <;> intro hc <;> (try simp only [push_cast] at hc)) | omega | with_reducible intro _))
   all_goals first
     | (exfalso; omega)
     | skip
   all_goals
     refine z0i (z0j (fun (k : Nat) => k ≤ d.rules.length ∧ z4s (z4o d) d.rules 0 = z4s (z4o d) (d.rules.drop k) k) (fun k => d.rules.length - k)
       (fun k => [(1, .ptr 0 1 0 0), (4, .int .i64 k)]) (fun k => [⟨6, 1, true, [z1z d]⟩]) (fun env _ => [z0r 1 (env 1)]) 0 ⟨by simp, rfl⟩ ?_ ?_)
     · (repeat' (first | (simp (disch := omega) only [push_cast, ↓zz, seval, hPr, hPf]) | (with_reducible first | refine And.intro ?_ ?_ | (first | refine z01 ?_ ?_ | refine z00 ?_ ?_) <;> intro hc <;> (try simp only [push_cast] at hc)) | omega | with_reducible intro _))
     exact key.get
 refine ⟨?_⟩
 rintro k ⟨k1, k2⟩
 rcases Nat.lt_or_ge k d.rules.length with hk | hk
 · have hrm := z0k hk
   have hrf := hs.fin.1 _ hrm
   have hrg := hs.rg _ hrm
   rw [zcs hk] at k2
   have hiff := @y2j d (nth d.rules k)
   have hG := zci d.in_ (nth d.rules k).guards hrg
   generalize hre : nth d.rules k = r at *
   have hpg := z06 r.guards
   have hpt := z0w r.out
   have hbad : ¬ zfd d r → z3p d = (2, (k : Int)) := fun hA => by
     have hb : z4o d r = false := by
       cases h : z4o d r with
       | false => rfl
       | true => exact absurd (hiff.1 h).1 hA
     rw [hb] at k2
     simp only [Bool.false_eq_true, if_false] at k2
     rw [hW, k2]
   refine W_T ?_
   by_cases f1 : r.from_ < 0
   · rw [hbad fun hA => by unfold zfd at hA; omega]
     have g1 := eq_true f1
     clear hiff hbad hW
     (repeat' (first | (simp (disch := omega) only [push_cast, ↓zz, seval, hPr, hPf, hre, hpg, hpt, g1]) | (with_reducible first | refine And.intro ?_ ?_ | (first | refine z01 ?_ ?_ | refine z00 ?_ ?_) <;> intro hc <;> (try simp only [push_cast] at hc)) | omega | with_reducible intro _))
   by_cases f2 : d.states ≤ r.from_
   · rw [hbad fun hA => by unfold zfd at hA; omega]
     have g1 := eq_false f1
     have g2 := eq_true f2
     clear hiff hbad hW
     (repeat' (first | (simp (disch := omega) only [push_cast, ↓zz, seval, hPr, hPf, hre, hpg, hpt, g1, g2]) | (with_reducible first | refine And.intro ?_ ?_ | (first | refine z01 ?_ ?_ | refine z00 ?_ ?_) <;> intro hc <;> (try simp only [push_cast] at hc)) | omega | with_reducible intro _))
   by_cases f3 : r.to_ < 0
   · rw [hbad fun hA => by unfold zfd at hA; omega]
     have g1 := eq_false f1
     have g2 := eq_false f2
     have g3 := eq_true f3
     clear hiff hbad hW
     (repeat' (first | (simp (disch := omega) only [push_cast, ↓zz, seval, hPr, hPf, hre, hpg, hpt, g1, g2, g3]) | (with_reducible first | refine And.intro ?_ ?_ | (first | refine z01 ?_ ?_ | refine z00 ?_ ?_) <;> intro hc <;> (try simp only [push_cast] at hc)) | omega | with_reducible intro _))
   by_cases f4 : d.states ≤ r.to_
   · rw [hbad fun hA => by unfold zfd at hA; omega]
     have g1 := eq_false f1
     have g2 := eq_false f2
     have g3 := eq_false f3
     have g4 := eq_true f4
     clear hiff hbad hW
     (repeat' (first | (simp (disch := omega) only [push_cast, ↓zz, seval, hPr, hPf, hre, hpg, hpt, g1, g2, g3, g4]) | (with_reducible first | refine And.intro ?_ ?_ | (first | refine z01 ?_ ?_ | refine z00 ?_ ?_) <;> intro hc <;> (try simp only [push_cast] at hc)) | omega | with_reducible intro _))
   have g1 := eq_false f1
   have g2 := eq_false f2
   have g3 := eq_false f3
   have g4 := eq_false f4
   have hE : (((r.guards.length : Int) = 0) = True ∧ (r.eat = 0) = True ∧ (1 ≤ r.eat) = False) ∨ (((r.guards.length : Int) = 0) = False ∧ (1 ≤ r.eat) = True ∧ (r.eat ≤ (r.guards.length : Int)) = True) ∨
       ¬ zfd d r ∧ (((r.guards.length : Int) = 0) = True ∧ (r.eat = 0) = False ∧ (1 ≤ r.eat) = False ∨ ((r.guards.length : Int) = 0) = True ∧ (r.eat = 0) = False ∧ (1 ≤ r.eat) = True ∧ (r.eat ≤ (r.guards.length : Int)) = False ∨
         ((r.guards.length : Int) = 0) = False ∧ (1 ≤ r.eat) = False ∨ ((r.guards.length : Int) = 0) = False ∧ (1 ≤ r.eat) = True ∧ (r.eat ≤ (r.guards.length : Int)) = False) := by
     simp only [eq_iff_iff, iff_true, iff_false, zfd]
     omega
   have hgood : ((((r.guards.length : Int) = 0) = True ∧ (r.eat = 0) = True ∧ (1 ≤ r.eat) = False) ∨ (((r.guards.length : Int) = 0) = False ∧ (1 ≤ r.eat) = True ∧ (r.eat ≤ (r.guards.length : Int)) = True)) → zfd d r := by
     simp only [eq_iff_iff, iff_true, iff_false, zfd]
     omega
   rcases hE with hE | hE | ⟨hA, hE⟩
   · have hA := hgood (.inl hE)
     obtain ⟨e1, e2, e3⟩ := hE
     clear hbad hgood
     cases hg : z2o d.in_ r.guards with
     | false =>
       rw [hg] at hG
       have hb : z4o d r = false := by
         cases h : z4o d r with
         | false => rfl
         | true => have := (hiff.1 h).2.1; rw [hg] at this; cases this
       rw [hb] at k2
       simp only [Bool.false_eq_true, if_false] at k2
       rw [hW, k2]
       clear hiff hW hA
       (repeat' (first | (simp (disch := omega) only [push_cast, ↓zz, seval, hPr, hPf, hre, hpg, hpt, g1, g2, g3, g4, e1, e2, e3]) | (with_reducible first | refine And.intro ?_ ?_ | (first | refine z01 ?_ ?_ | refine z00 ?_ ?_) <;> intro hc <;> (try simp only [push_cast] at hc)) | ((with_reducible first | refine eK hG ?_ | refine eQ hG ?_ | refine eG hG ?_)) | ((with_reducible first | refine cK hG ?_ | refine cQ hG ?_ | refine cG hG ?_); (simp (disch := omega) only [push_cast, ↓zz, seval, hPr, hPf, hre, hpg, hpt, g1, g2, g3, g4, e1, e2, e3]); (fail_if_success (with_reducible change False))) | omega | with_reducible intro _))
     | true =>
       rw [hg] at hG
       have hWr := z7v d r.out r.guards hrf (zfb hg)
       have hb : z4o d r = z2t d r.out r.guards := by
         rw [Bool.eq_iff_iff, hiff]
         exact ⟨fun h => h.2.2, fun h => ⟨hA, hg, h⟩⟩
       rw [hb] at k2
       cases hw : z2t d r.out r.guards with
       | false =>
         rw [hw] at hWr k2
         simp only [Bool.false_eq_true, if_false] at k2
         rw [hW, k2]
         clear hiff hW hA
         (repeat' (first | (simp (disch := omega) only [push_cast, ↓zz, seval, hPr, hPf, hre, hpg, hpt, g1, g2, g3, g4, e1, e2, e3]) | (with_reducible first | refine And.intro ?_ ?_ | (first | refine z01 ?_ ?_ | refine z00 ?_ ?_) <;> intro hc <;> (try simp only [push_cast] at hc)) | ((with_reducible first | refine eK hG ?_ | refine eQ hG ?_ | refine eG hG ?_)) | ((with_reducible first | refine eK hWr ?_ | refine eQ hWr ?_ | refine eG hWr ?_)) | ((with_reducible first | refine cK hG ?_ | refine cQ hG ?_ | refine cG hG ?_); (simp (disch := omega) only [push_cast, ↓zz, seval, hPr, hPf, hre, hpg, hpt, g1, g2, g3, g4, e1, e2, e3]); (fail_if_success (with_reducible change False))) | ((with_reducible first | refine cK hWr ?_ | refine cQ hWr ?_ | refine cG hWr ?_); (simp (disch := omega) only [push_cast, ↓zz, seval, hPr, hPf, hre, hpg, hpt, g1, g2, g3, g4, e1, e2, e3]); (fail_if_success (with_reducible change False))) | omega | with_reducible intro _))
       | true =>
         rw [hw] at hWr k2
         simp only [if_true] at k2
         clear hiff hA
         (repeat' (first | (simp (disch := omega) only [push_cast, ↓zz, seval, hPr, hPf, hre, hpg, hpt, g1, g2, g3, g4, e1, e2, e3]) | (with_reducible first | refine And.intro ?_ ?_ | (first | refine z01 ?_ ?_ | refine z00 ?_ ?_) <;> intro hc <;> (try simp only [push_cast] at hc)) | ((with_reducible first | refine eK hG ?_ | refine eQ hG ?_ | refine eG hG ?_)) | ((with_reducible first | refine eK hWr ?_ | refine eQ hWr ?_ | refine eG hWr ?_)) | ((with_reducible first | refine cK hG ?_ | refine cQ hG ?_ | refine cG hG ?_); (simp (disch := omega) only [push_cast, ↓zz, seval, hPr, hPf, hre, hpg, hpt, g1, g2, g3, g4, e1, e2, e3]); (fail_if_success (with_reducible change False))) | ((with_reducible first | refine cK hWr ?_ | refine cQ hWr ?_ | refine cG hWr ?_); (simp (disch := omega) only [push_cast, ↓zz, seval, hPr, hPf, hre, hpg, hpt, g1, g2, g3, g4, e1, e2, e3]); (fail_if_success (with_reducible change False))) | omega | with_reducible intro _))
         all_goals first
           | exact ⟨k + 1, by push_cast, ⟨by omega, k2⟩, by omega⟩
           | trace_state
   · have hA := hgood (.inr hE)
     obtain ⟨e1, e2, e3⟩ := hE
     clear hbad hgood
     cases hg : z2o d.in_ r.guards with
     | false =>
       rw [hg] at hG
       have hb : z4o d r = false := by
         cases h : z4o d r with
         | false => rfl
         | true => have := (hiff.1 h).2.1; rw [hg] at this; cases this
       rw [hb] at k2
       simp only [Bool.false_eq_true, if_false] at k2
       rw [hW, k2]
       clear hiff hW hA
       (repeat' (first | (simp (disch := omega) only [push_cast, ↓zz, seval, hPr, hPf, hre, hpg, hpt, g1, g2, g3, g4, e1, e2, e3]) | (with_reducible first | refine And.intro ?_ ?_ | (first | refine z01 ?_ ?_ | refine z00 ?_ ?_) <;> intro hc <;> (try simp only [push_cast] at hc)) | ((with_reducible first | refine eK hG ?_ | refine eQ hG ?_ | refine eG hG ?_)) | ((with_reducible first | refine cK hG ?_ | refine cQ hG ?_ | refine cG hG ?_); (simp (disch := omega) only [push_cast, ↓zz, seval, hPr, hPf, hre, hpg, hpt, g1, g2, g3, g4, e1, e2, e3]); (fail_if_success (with_reducible change False))) | omega | with_reducible intro _))
     | true =>
       rw [hg] at hG
       have hWr := z7v d r.out r.guards hrf (zfb hg)
       have hb : z4o d r = z2t d r.out r.guards := by
         rw [Bool.eq_iff_iff, hiff]
         exact ⟨fun h => h.2.2, fun h => ⟨hA, hg, h⟩⟩
       rw [hb] at k2
       cases hw : z2t d r.out r.guards with
       | false =>
         rw [hw] at hWr k2
         simp only [Bool.false_eq_true, if_false] at k2
         rw [hW, k2]
         clear hiff hW hA
         (repeat' (first | (simp (disch := omega) only [push_cast, ↓zz, seval, hPr, hPf, hre, hpg, hpt, g1, g2, g3, g4, e1, e2, e3]) | (with_reducible first | refine And.intro ?_ ?_ | (first | refine z01 ?_ ?_ | refine z00 ?_ ?_) <;> intro hc <;> (try simp only [push_cast] at hc)) | ((with_reducible first | refine eK hG ?_ | refine eQ hG ?_ | refine eG hG ?_)) | ((with_reducible first | refine eK hWr ?_ | refine eQ hWr ?_ | refine eG hWr ?_)) | ((with_reducible first | refine cK hG ?_ | refine cQ hG ?_ | refine cG hG ?_); (simp (disch := omega) only [push_cast, ↓zz, seval, hPr, hPf, hre, hpg, hpt, g1, g2, g3, g4, e1, e2, e3]); (fail_if_success (with_reducible change False))) | ((with_reducible first | refine cK hWr ?_ | refine cQ hWr ?_ | refine cG hWr ?_); (simp (disch := omega) only [push_cast, ↓zz, seval, hPr, hPf, hre, hpg, hpt, g1, g2, g3, g4, e1, e2, e3]); (fail_if_success (with_reducible change False))) | omega | with_reducible intro _))
       | true =>
         rw [hw] at hWr k2
         simp only [if_true] at k2
         clear hiff hA
         (repeat' (first | (simp (disch := omega) only [push_cast, ↓zz, seval, hPr, hPf, hre, hpg, hpt, g1, g2, g3, g4, e1, e2, e3]) | (with_reducible first | refine And.intro ?_ ?_ | (first | refine z01 ?_ ?_ | refine z00 ?_ ?_) <;> intro hc <;> (try simp only [push_cast] at hc)) | ((with_reducible first | refine eK hG ?_ | refine eQ hG ?_ | refine eG hG ?_)) | ((with_reducible first | refine eK hWr ?_ | refine eQ hWr ?_ | refine eG hWr ?_)) | ((with_reducible first | refine cK hG ?_ | refine cQ hG ?_ | refine cG hG ?_); (simp (disch := omega) only [push_cast, ↓zz, seval, hPr, hPf, hre, hpg, hpt, g1, g2, g3, g4, e1, e2, e3]); (fail_if_success (with_reducible change False))) | ((with_reducible first | refine cK hWr ?_ | refine cQ hWr ?_ | refine cG hWr ?_); (simp (disch := omega) only [push_cast, ↓zz, seval, hPr, hPf, hre, hpg, hpt, g1, g2, g3, g4, e1, e2, e3]); (fail_if_success (with_reducible change False))) | omega | with_reducible intro _))
         all_goals first
           | exact ⟨k + 1, by push_cast, ⟨by omega, k2⟩, by omega⟩
           | trace_state
   · rw [hbad hA]
     clear hiff hW hA hbad hgood
     rcases hE with ⟨e1, e2, e3⟩ | ⟨e1, e2, e3, e4⟩ | ⟨e1, e2⟩ | ⟨e1, e2, e3⟩
     · (repeat' (first | (simp (disch := omega) only [push_cast, ↓zz, seval, hPr, hPf, hre, hpg, hpt, g1, g2, g3, g4, e1, e2, e3]) | (with_reducible first | refine And.intro ?_ ?_ | (first | refine z01 ?_ ?_ | refine z00 ?_ ?_) <;> intro hc <;> (try simp only [push_cast] at hc)) | omega | with_reducible intro _))
     · (repeat' (first | (simp (disch := omega) only [push_cast, ↓zz, seval, hPr, hPf, hre, hpg, hpt, g1, g2, g3, g4, e1, e2, e3, e4]) | (with_reducible first | refine And.intro ?_ ?_ | (first | refine z01 ?_ ?_ | refine z00 ?_ ?_) <;> intro hc <;> (try simp only [push_cast] at hc)) | omega | with_reducible intro _))
     · (repeat' (first | (simp (disch := omega) only [push_cast, ↓zz, seval, hPr, hPf, hre, hpg, hpt, g1, g2, g3, g4, e1, e2]) | (with_reducible first | refine And.intro ?_ ?_ | (first | refine z01 ?_ ?_ | refine z00 ?_ ?_) <;> intro hc <;> (try simp only [push_cast] at hc)) | omega | with_reducible intro _))
     · (repeat' (first | (simp (disch := omega) only [push_cast, ↓zz, seval, hPr, hPf, hre, hpg, hpt, g1, g2, g3, g4, e1, e2, e3]) | (with_reducible first | refine And.intro ?_ ?_ | (first | refine z01 ?_ ?_ | refine z00 ?_ ?_) <;> intro hc <;> (try simp only [push_cast] at hc)) | omega | with_reducible intro _))
 · rw [List.drop_of_length_le hk, z4s] at k2
   have hall := z6l k2
   have hC := zog d ⟨i3, i5, fun r hr => zjf (hall r hr)⟩
   have hcs := y18 (l := d.rules) (n := d.states.toNat) fun r hr => by
     have := zjf (hall r hr)
     omega
   rw [k2] at hW
   simp only at hW
   refine W_T ?_
   (repeat' (first | (simp (disch := omega) only [push_cast, ↓zz, seval, hPr, hPf]) | (with_reducible first | refine And.intro ?_ ?_ | (first | refine z01 ?_ ?_ | refine z00 ?_ ?_) <;> intro hc <;> (try simp only [push_cast] at hc)) | omega | with_reducible intro _))
   refine z0i (z0j (fun (k : Nat) => k ≤ d.finals.length ∧ z4s (z3c d) d.finals 0 = z4s (z3c d) (d.finals.drop k) k) (fun k => d.finals.length - k)
     (fun k => [(1, .ptr 0 1 0 0), (8, .int .i64 k)]) (fun k => [⟨6, 1, true, [z1z d]⟩]) (fun env _ => [z0r 1 (env 1)]) 0 ⟨by simp, rfl⟩ ?_ ?_)
   · (repeat' (first | (simp (disch := omega) only [push_cast, ↓zz, seval, hPr, hPf]) | (with_reducible first | refine And.intro ?_ ?_ | (first | refine z01 ?_ ?_ | refine z00 ?_ ?_) <;> intro hc <;> (try simp only [push_cast] at hc)) | omega | with_reducible intro _))
   rintro j ⟨j1, j2⟩
   rcases Nat.lt_or_ge j d.finals.length with hj | hj
   · have hfm := z0k hj
     have hff := hs.fin.2 _ hfm
     have hfg := hs.fg _ hfm
     rw [zcs hj] at j2
     have hiff := @zyd d (nth d.finals j)
     have hG := zci d.in_ (nth d.finals j).guards hfg
     generalize hfe : nth d.finals j = f at *
     have hpg := z06 f.guards
     have hpt := z0w f.out
     have hbad : z3c d f = false → z3p d = (3, (j : Int)) := fun hb => by
       rw [hb] at j2
       simp only [Bool.false_eq_true, if_false] at j2
       rw [hW, j2]
     have hno : ¬ (0 ≤ f.from_ ∧ f.from_ < d.states) → z3c d f = false := fun hA => by
       cases h : z3c d f with
       | false => rfl
       | true => exact absurd (hiff.1 h).1 hA
     refine W_T ?_
     by_cases f1 : f.from_ < 0
     · rw [hbad (hno (by omega))]
       have g1 := eq_true f1
       clear hiff hbad hW hno
       (repeat' (first | (simp (disch := omega) only [push_cast, ↓zz, seval, hPr, hPf, hfe, hpg, hpt, g1]) | (with_reducible first | refine And.intro ?_ ?_ | (first | refine z01 ?_ ?_ | refine z00 ?_ ?_) <;> intro hc <;> (try simp only [push_cast] at hc)) | omega | with_reducible intro _))
     by_cases f2 : d.states ≤ f.from_
     · rw [hbad (hno (by omega))]
       have g1 := eq_false f1
       have g2 := eq_true f2
       clear hiff hbad hW hno
       (repeat' (first | (simp (disch := omega) only [push_cast, ↓zz, seval, hPr, hPf, hfe, hpg, hpt, g1, g2]) | (with_reducible first | refine And.intro ?_ ?_ | (first | refine z01 ?_ ?_ | refine z00 ?_ ?_) <;> intro hc <;> (try simp only [push_cast] at hc)) | omega | with_reducible intro _))
     have g1 := eq_false f1
     have g2 := eq_false f2
     cases hg : z2o d.in_ f.guards with
     | false =>
       rw [hg] at hG
       have hb : z3c d f = false := by
         cases h : z3c d f with
         | false => rfl
         | true => have := (hiff.1 h).2.1; rw [hg] at this; cases this
       rw [hbad hb]
       clear hiff hbad hW hno
       (repeat' (first | (simp (disch := omega) only [push_cast, ↓zz, seval, hPr, hPf, hfe, hpg, hpt, g1, g2]) | (with_reducible first | refine And.intro ?_ ?_ | (first | refine z01 ?_ ?_ | refine z00 ?_ ?_) <;> intro hc <;> (try simp only [push_cast] at hc)) | ((with_reducible first | refine eK hG ?_ | refine eQ hG ?_ | refine eG hG ?_)) | ((with_reducible first | refine cK hG ?_ | refine cQ hG ?_ | refine cG hG ?_); (simp (disch := omega) only [push_cast, ↓zz, seval, hPr, hPf, hfe, hpg, hpt, g1, g2]); (fail_if_success (with_reducible change False))) | omega | with_reducible intro _))
     | true =>
       rw [hg] at hG
       have hWr := z7v d f.out f.guards hff (zfb hg)
       have hb : z3c d f = z2t d f.out f.guards := by
         rw [Bool.eq_iff_iff, hiff]
         exact ⟨fun h => h.2.2, fun h => ⟨by omega, hg, h⟩⟩
       rw [hb] at j2 hbad
       cases hw : z2t d f.out f.guards with
       | false =>
         rw [hw] at hWr
         rw [hbad hw]
         clear hiff hbad hW hno
         (repeat' (first | (simp (disch := omega) only [push_cast, ↓zz, seval, hPr, hPf, hfe, hpg, hpt, g1, g2]) | (with_reducible first | refine And.intro ?_ ?_ | (first | refine z01 ?_ ?_ | refine z00 ?_ ?_) <;> intro hc <;> (try simp only [push_cast] at hc)) | ((with_reducible first | refine eK hG ?_ | refine eQ hG ?_ | refine eG hG ?_)) | ((with_reducible first | refine eK hWr ?_ | refine eQ hWr ?_ | refine eG hWr ?_)) | ((with_reducible first | refine cK hG ?_ | refine cQ hG ?_ | refine cG hG ?_); (simp (disch := omega) only [push_cast, ↓zz, seval, hPr, hPf, hfe, hpg, hpt, g1, g2]); (fail_if_success (with_reducible change False))) | ((with_reducible first | refine cK hWr ?_ | refine cQ hWr ?_ | refine cG hWr ?_); (simp (disch := omega) only [push_cast, ↓zz, seval, hPr, hPf, hfe, hpg, hpt, g1, g2]); (fail_if_success (with_reducible change False))) | omega | with_reducible intro _))
       | true =>
         rw [hw] at hWr j2
         simp only [if_true] at j2
         clear hiff hbad hno
         (repeat' (first | (simp (disch := omega) only [push_cast, ↓zz, seval, hPr, hPf, hfe, hpg, hpt, g1, g2]) | (with_reducible first | refine And.intro ?_ ?_ | (first | refine z01 ?_ ?_ | refine z00 ?_ ?_) <;> intro hc <;> (try simp only [push_cast] at hc)) | ((with_reducible first | refine eK hG ?_ | refine eQ hG ?_ | refine eG hG ?_)) | ((with_reducible first | refine eK hWr ?_ | refine eQ hWr ?_ | refine eG hWr ?_)) | ((with_reducible first | refine cK hG ?_ | refine cQ hG ?_ | refine cG hG ?_); (simp (disch := omega) only [push_cast, ↓zz, seval, hPr, hPf, hfe, hpg, hpt, g1, g2]); (fail_if_success (with_reducible change False))) | ((with_reducible first | refine cK hWr ?_ | refine cQ hWr ?_ | refine cG hWr ?_); (simp (disch := omega) only [push_cast, ↓zz, seval, hPr, hPf, hfe, hpg, hpt, g1, g2]); (fail_if_success (with_reducible change False))) | omega | with_reducible intro _))
         all_goals first
           | exact ⟨j + 1, by push_cast, ⟨by omega, j2⟩, by omega⟩
           | trace_state
   · rw [List.drop_of_length_le hj, z4s] at j2
     rw [j2] at hW
     simp only at hW
     have hdc : @decide (cycP d.rules d.states.toNat) (Classical.propDecidable _) = cycR d.rules d.states.toNat := by
       rw [Bool.eq_iff_iff, hcs]
       exact @decide_eq_true_iff _ (Classical.propDecidable _)
     rw [hdc] at hW
     clear hcs hdc
     generalize cycR d.rules d.states.toNat = c at *
     refine W_T ?_
     rw [hW]
     cases c
     · (repeat' (first | (simp (disch := omega) only [push_cast, ↓zz, seval, hPr, hPf]) | (with_reducible first | refine And.intro ?_ ?_ | (first | refine z01 ?_ ?_ | refine z00 ?_ ?_) <;> intro hc <;> (try simp only [push_cast] at hc)) | ((with_reducible first | refine eK hC ?_ | refine eQ hC ?_ | refine eG hC ?_)) | ((with_reducible first | refine cK hC ?_ | refine cQ hC ?_ | refine cG hC ?_); (simp (disch := omega) only [push_cast, ↓zz, seval, hPr, hPf]); (fail_if_success (with_reducible change False))) | omega | with_reducible intro _))
     · (repeat' (first | (simp (disch := omega) only [push_cast, ↓zz, seval, hPr, hPf]) | (with_reducible first | refine And.intro ?_ ?_ | (first | refine z01 ?_ ?_ | refine z00 ?_ ?_) <;> intro hc <;> (try simp only [push_cast] at hc)) | ((with_reducible first | refine eK hC ?_ | refine eQ hC ?_ | refine eG hC ?_)) | ((with_reducible first | refine cK hC ?_ | refine cQ hC ?_ | refine cG hC ?_); (simp (disch := omega) only [push_cast, ↓zz, seval, hPr, hPf]); (fail_if_success (with_reducible change False))) | omega | with_reducible intro _))
       all_goals trace_state
theorem zff {gs : List (List Span)} {out : List Term} (h : z5q gs out ≤ 1500) : gs.length ≤ 100 := by
 unfold z5q at h
 split at h
 · omega
 · omega
theorem zfg {d : Desc} (h : z79 d = true) : z5o d := by
 refine ⟨zyc h, ?_, ?_⟩
 all_goals
   simp only [z79, Bool.and_eq_true, decide_eq_true_eq] at h
   have sR : ∀ r, 0 ≤ szR r ∧ szR r ≤ 2000000 := fun r => z7w _ _
   have sF : ∀ f, 0 ≤ szF f ∧ szF f ≤ 2000000 := fun r => z7w _ _
   have a1 := (z4p sR d.rules).1
   have a2 := (z4p sF d.finals).1
 · intro r hr
   have h1 := z73 (fun r => (sR r).1) hr
   have h2 : szR r = z5q r.guards r.out := rfl
   have := zff (gs := r.guards) (out := r.out) (by omega)
   omega
 · intro f hf
   have h1 := z73 (fun r => (sF r).1) hf
   have h2 : szF f = z5q f.guards f.out := rfl
   have := zff (gs := f.guards) (out := f.out) (by omega)
   omega
theorem zfp (d : Desc) : PC Try.prog 3 [z1z d] (.bool true) := by
 have hA := zf6
 have hS := zfc d
 refine z0t z9t ?_
 unfold z5t
 cases hsm : z79 d with
 | false =>
   rw [hsm] at hS
   (repeat' (first | (simp (disch := omega) only [push_cast, ↓zz, seval]) | (with_reducible first | refine And.intro ?_ ?_ | (first | refine z01 ?_ ?_ | refine z00 ?_ ?_) <;> intro hc <;> (try simp only [push_cast] at hc)) | ((with_reducible first | refine eK hS ?_ | refine eQ hS ?_ | refine eG hS ?_)) | ((with_reducible first | refine eK hA ?_ | refine eQ hA ?_ | refine eG hA ?_)) | ((with_reducible first | refine cK hS ?_ | refine cQ hS ?_ | refine cG hS ?_); (simp (disch := omega) only [push_cast, ↓zz, seval]); (fail_if_success (with_reducible change False))) | ((with_reducible first | refine cK hA ?_ | refine cQ hA ?_ | refine cG hA ?_); (simp (disch := omega) only [push_cast, ↓zz, seval]); (fail_if_success (with_reducible change False))) | omega | with_reducible intro _))
 | true =>
   rw [hsm] at hS
   have hsh := zfg hsm
   have h1 := zbg d hsh.fin
   have h2 := zfe d hsh
   have h3 := z8h d hsh.fin
   obtain ⟨k, a, c, e1, e2, hk⟩ : ∃ (k a c : Int), z3p d = (k, a) ∧ z5w d = c ∧ ((k = 0 ∧ c = 0) ∨ (k ≠ 0 ∧ c = 2)) := by
     refine ⟨(z3p d).1, (z3p d).2, z5w d, rfl, rfl, ?_⟩
     unfold z5w
     split
     · exact .inl ⟨by assumption, rfl⟩
     · exact .inr ⟨by assumption, rfl⟩
   rw [e1] at h1 h2
   rw [e2] at h3
   clear e1 e2 hsm
   simp only at h1 h2
   rcases hk with ⟨k1, c1⟩ | ⟨k1, c1⟩
   · subst c1
     have k2 := eq_true k1
     (repeat' (first | (simp (disch := omega) only [push_cast, ↓zz, seval, k2]) | (with_reducible first | refine And.intro ?_ ?_ | (first | refine z01 ?_ ?_ | refine z00 ?_ ?_) <;> intro hc <;> (try simp only [push_cast] at hc)) | ((with_reducible first | refine eK hS ?_ | refine eQ hS ?_ | refine eG hS ?_)) | ((with_reducible first | refine eK h1 ?_ | refine eQ h1 ?_ | refine eG h1 ?_)) | ((with_reducible first | refine eK h2 ?_ | refine eQ h2 ?_ | refine eG h2 ?_)) | ((with_reducible first | refine eK h3 ?_ | refine eQ h3 ?_ | refine eG h3 ?_)) | ((with_reducible first | refine eK hA ?_ | refine eQ hA ?_ | refine eG hA ?_)) | ((with_reducible first | refine cK hS ?_ | refine cQ hS ?_ | refine cG hS ?_); (simp (disch := omega) only [push_cast, ↓zz, seval, k2]); (fail_if_success (with_reducible change False))) | ((with_reducible first | refine cK h1 ?_ | refine cQ h1 ?_ | refine cG h1 ?_); (simp (disch := omega) only [push_cast, ↓zz, seval, k2]); (fail_if_success (with_reducible change False))) | ((with_reducible first | refine cK h2 ?_ | refine cQ h2 ?_ | refine cG h2 ?_); (simp (disch := omega) only [push_cast, ↓zz, seval, k2]); (fail_if_success (with_reducible change False))) | ((with_reducible first | refine cK h3 ?_ | refine cQ h3 ?_ | refine cG h3 ?_); (simp (disch := omega) only [push_cast, ↓zz, seval, k2]); (fail_if_success (with_reducible change False))) | ((with_reducible first | refine cK hA ?_ | refine cQ hA ?_ | refine cG hA ?_); (simp (disch := omega) only [push_cast, ↓zz, seval, k2]); (fail_if_success (with_reducible change False))) | omega | with_reducible intro _))
     all_goals (exfalso; revert hc; decide)
   · subst c1
     have k2 := eq_false k1
     (repeat' (first | (simp (disch := omega) only [push_cast, ↓zz, seval, k2]) | (with_reducible first | refine And.intro ?_ ?_ | (first | refine z01 ?_ ?_ | refine z00 ?_ ?_) <;> intro hc <;> (try simp only [push_cast] at hc)) | ((with_reducible first | refine eK hS ?_ | refine eQ hS ?_ | refine eG hS ?_)) | ((with_reducible first | refine eK h1 ?_ | refine eQ h1 ?_ | refine eG h1 ?_)) | ((with_reducible first | refine eK h2 ?_ | refine eQ h2 ?_ | refine eG h2 ?_)) | ((with_reducible first | refine eK h3 ?_ | refine eQ h3 ?_ | refine eG h3 ?_)) | ((with_reducible first | refine eK hA ?_ | refine eQ hA ?_ | refine eG hA ?_)) | ((with_reducible first | refine cK hS ?_ | refine cQ hS ?_ | refine cG hS ?_); (simp (disch := omega) only [push_cast, ↓zz, seval, k2]); (fail_if_success (with_reducible change False))) | ((with_reducible first | refine cK h1 ?_ | refine cQ h1 ?_ | refine cG h1 ?_); (simp (disch := omega) only [push_cast, ↓zz, seval, k2]); (fail_if_success (with_reducible change False))) | ((with_reducible first | refine cK h2 ?_ | refine cQ h2 ?_ | refine cG h2 ?_); (simp (disch := omega) only [push_cast, ↓zz, seval, k2]); (fail_if_success (with_reducible change False))) | ((with_reducible first | refine cK h3 ?_ | refine cQ h3 ?_ | refine cG h3 ?_); (simp (disch := omega) only [push_cast, ↓zz, seval, k2]); (fail_if_success (with_reducible change False))) | ((with_reducible first | refine cK hA ?_ | refine cQ hA ?_ | refine cG hA ?_); (simp (disch := omega) only [push_cast, ↓zz, seval, k2]); (fail_if_success (with_reducible change False))) | omega | with_reducible intro _))
     all_goals (exfalso; revert hc; decide)
theorem z6p {c : Desc} (hc : z5o c) : ∃ k a : Int, PC Try.prog 12 [z1z c] (.tup [.int .i64 k, .int .i64 a]) ∧ PC Try.prog 13 [z1z c] (.tup [.int .i64 k, .int .i64 a]) :=
 ⟨_, _, zbg c hc.fin, zfe c hc⟩
theorem zav {d : Desc} (h : z5o d) {i : Nat} {r : Rule} {a b : Int} (h1 : ∀ t ∈ r.out, t.parts.length < 1000000000000) (h2 : r.guards.length ≤ 9223372036854775807) : z5o ⟨d.in_, d.out, a, b, d.rules.set i r, d.finals⟩ := by
 refine ⟨⟨fun r' hr => ?_, h.fin.2⟩, fun r' hr => ?_, h.fg⟩
 · rcases List.mem_or_eq_of_mem_set hr with hr | rfl
   · exact h.fin.1 r' hr
   · exact h1
 · rcases List.mem_or_eq_of_mem_set hr with hr | rfl
   · exact h.rg r' hr
   · exact h2
theorem zmf (l : List Rule) (i : Nat) (r : Rule) : (l.map z64).set i (z64 r) = (l.set i r).map z64 := by rw [List.map_set]
theorem zto (l : List Rule) (i : Nat) (r : Rule) : List.take l.length ((l.set i r).map z64) = (l.set i r).map z64 := List.take_of_length_le (by simp)
theorem y2k {gs : List (List Span)} {out : List Term} (h : z5q gs out ≤ 1500) : out.length ≤ 200 := by
 unfold z5q at h
 split at h
 · omega
 · omega
theorem ztp {d : Desc} (h : z79 d = true) {r : Rule} (hr : r ∈ d.rules) : z5q r.guards r.out ≤ 1500 := by
 simp only [z79, Bool.and_eq_true, decide_eq_true_eq] at h
 have sR : ∀ r, 0 ≤ szR r ∧ szR r ≤ 2000000 := fun r => z7w _ _
 have sF : ∀ f, 0 ≤ szF f ∧ szF f ≤ 2000000 := fun r => z7w _ _
 have a1 := (z4p sR d.rules).1
 have a2 := (z4p sF d.finals).1
 have h1 := z73 (fun r => (sR r).1) hr
 have h2 : szR r = z5q r.guards r.out := rfl
 omega
theorem zr4 {d n : Nat} {H : z02} {xs : List AV} {i : Nat} {X Y : AV} (hn : xs.length ≤ n) (hp : z0l xs = true) (ho : z2m d H X) (hv : frzV d H X = Y) :
   ifB (z0l (List.take n (xs.set i X))) (okM d H (List.take n (xs.set i X))) ∧ (bif z0l (List.take n (xs.set i X)) then List.take n (xs.set i X) else frM d H (List.take n (xs.set i X))) = xs.set i Y := by
 rw [List.take_of_length_le (by simpa using hn)]
 have hf := z5k H d hp
 have e : frM d H (xs.set i X) = xs.set i Y := by
   show List.map (frzV d H) (xs.set i X) = _
   rw [List.map_set, hf.2, hv]
 refine ⟨.inr fun y hy => ?_, ?_⟩
 · rcases List.mem_or_eq_of_mem_set hy with hy | rfl
   · exact hf.1 y hy
   · exact ho
 · cases hpp : z0l (xs.set i X) with
   | false => exact e
   | true =>
     have h2 : frM d H (xs.set i X) = xs.set i X := (z5k H d hpp).2
     rw [← h2, e]; rfl
abbrev y2l (x : Int) : AV := .agg [.int .i64 0, .int .i64 0, .int .i64 21, .int .i64 0, .int .i64 x, .nilS]
abbrev ztq (rf rt : Int) (rg : List (List Span)) (re : Int) (ro : List Term) (x : Int) : AV := .agg [.int .i64 rf, .int .i64 rt, z0b rg, .int .i64 re, .lst 6 (ro.map z1m ++ [y2l x])]
theorem zyf {X Y : AV} (h : AV.le X Y) : ∀ (xs : List AV) (i : Nat), leL (xs.set i X) (xs.set i Y)
 | [], _ => z3s
 | x :: xs, 0 => z0f h (zz1 xs)
 | x :: xs, i + 1 => z0f (AV.le_refl x) (zyf h xs i)
theorem zyg {X Y : AV} (h : AV.le X Y) : ∀ xs : List AV, leL (xs ++ [X]) (xs ++ [Y])
 | [] => z0f h z3s
 | x :: xs => z0f (AV.le_refl x) (zyg h xs)
theorem ztr (rf rt : Int) (rg : List (List Span)) (re : Int) (ro : List Term) (x : Int) : z0l (ro.map z1m ++ [y2l x]) = true := by
 rw [zkj, z0w]; rfl
theorem y2m (rf rt : Int) (rg : List (List Span)) (re : Int) (ro : List Term) (x : Int) : AV.le (ztq rf rt rg re ro x) (z64 ⟨rf, rt, rg, re, ro ++ [⟨0, 0, 21, 0, x, []⟩]⟩) := by
 refine AV.le_agg (z0f (AV.le_refl _) (z0f (AV.le_refl _) (z0f (AV.le_refl _) (z0f (AV.le_refl _) (z0f (AV.le_lst (by simp) (z0w _) ?_) z3s)))))
 rw [List.map_append]
 exact zyg (AV.le_agg (z0f (AV.le_refl _) (z0f (AV.le_refl _) (z0f (AV.le_refl _) (z0f (AV.le_refl _) (z0f (AV.le_refl _) (z0f (AV.le_nilS (by decide)) z3s))))))) _
theorem zmg {d : Desc} {i : Nat} {W : AV} {r : Rule} (h : AV.le W (z64 r)) : leL [.agg [.int .i64 d.in_, .int .i64 d.out, .int .i64 d.states, .int .i64 d.start, .lst 5 ((d.rules.map z64).set i W), z43 d.finals]] [z1z ⟨d.in_, d.out, d.states, d.start, d.rules.set i r, d.finals⟩] := by
 refine z0f (AV.le_agg (z0f (AV.le_refl _) (z0f (AV.le_refl _) (z0f (AV.le_refl _) (z0f (AV.le_refl _) (z0f (AV.le_lst (by simp) (z1h _) ?_) (z0f (AV.le_refl _) z3s))))))) z3s
 rw [← zmf]
 exact zyf h _ _
theorem y2n {xs : List AV} {W : AV} {i : Nat} (h : z0l xs = true) (hw : W.pure = true) : z0l (xs.set i W) = true := z2l.2 fun y hy => by
 rcases List.mem_or_eq_of_mem_set hy with hy | rfl
 · exact z2l.1 h y hy
 · exact hw
set_option maxRecDepth 8000 in
set_option maxHeartbeats 1000000 in
theorem zfq (d : Desc) (w at_ x : Int) (hx : -9223372036854775808 ≤ x ∧ x ≤ 9223372036854775807) : PC Try.prog 5 [z1z d, .int .i64 w, .int .i64 at_, .int .i64 x] (.bool true) := by
 have hA := zf6
 have hS := zfc d
 have hPr := z1h d.rules
 have hPf := z1w d.finals
 refine z0t z9u ?_
 unfold z5u
 cases hsm : z79 d with
 | false =>
   rw [hsm] at hS
   (repeat' (first | (simp (disch := omega) only [push_cast, ↓zz, seval]) | (with_reducible first | refine And.intro ?_ ?_ | (first | refine z01 ?_ ?_ | refine z00 ?_ ?_) <;> intro hc <;> (try simp only [push_cast] at hc)) | ((with_reducible first | refine eK hS ?_ | refine eQ hS ?_ | refine eG hS ?_)) | ((with_reducible first | refine eK hA ?_ | refine eQ hA ?_ | refine eG hA ?_)) | ((with_reducible first | refine cK hS ?_ | refine cQ hS ?_ | refine cG hS ?_); (simp (disch := omega) only [push_cast, ↓zz, seval]); (fail_if_success (with_reducible change False))) | ((with_reducible first | refine cK hA ?_ | refine cQ hA ?_ | refine cG hA ?_); (simp (disch := omega) only [push_cast, ↓zz, seval]); (fail_if_success (with_reducible change False))) | omega | with_reducible intro _))
 | true =>
 rw [hsm] at hS
 by_cases hn : d.rules.length = 0
 · (repeat' (first | (simp (disch := omega) only [push_cast, ↓zz, seval, hn]) | (with_reducible first | refine And.intro ?_ ?_ | (first | refine z01 ?_ ?_ | refine z00 ?_ ?_) <;> intro hc <;> (try simp only [push_cast] at hc)) | ((with_reducible first | refine eK hS ?_ | refine eQ hS ?_ | refine eG hS ?_)) | ((with_reducible first | refine eK hA ?_ | refine eQ hA ?_ | refine eG hA ?_)) | ((with_reducible first | refine cK hS ?_ | refine cQ hS ?_ | refine cG hS ?_); (simp (disch := omega) only [push_cast, ↓zz, seval, hn]); (fail_if_success (with_reducible change False))) | ((with_reducible first | refine cK hA ?_ | refine cQ hA ?_ | refine cG hA ?_); (simp (disch := omega) only [push_cast, ↓zz, seval, hn]); (fail_if_success (with_reducible change False))) | omega | with_reducible intro _))
 have hsh := zfg hsm
 have hl80 : d.rules.length ≤ 80 := by
   simp only [z79, Bool.and_eq_true, decide_eq_true_eq] at hsm
   exact hsm.1.1
 have hu := y3a at_
 have hv := y3a w
 generalize hue : IntKind.u64.wrap at_ = u at *
 generalize hve : IntKind.u64.wrap w = v at *
 have wl : IntKind.u64.wrap (d.rules.length : Int) = d.rules.length := IntWalk.u64_in _ (by omega)
 have wt : u.tmod (d.rules.length : Int) = u % (d.rules.length : Int) := Int.tmod_eq_emod_of_nonneg hu.1
 obtain ⟨i, hi⟩ : ∃ i : Nat, u % (d.rules.length : Int) = i := ⟨(u % (d.rules.length : Int)).toNat, by have := Int.emod_nonneg u (show (d.rules.length : Int) ≠ 0 by omega); omega⟩
 have hil : i < d.rules.length := by have := Int.emod_lt_of_pos u (show (0 : Int) < d.rules.length by omega); omega
 have wi : IntKind.u64.wrap (i : Int) = i := IntWalk.u64_in _ (by omega)
 have wj : IntKind.i64.wrap (i : Int) = i := IntWalk.i64_in _ (by omega)
 have wv : v.tmod 6 = v % 6 := Int.tmod_eq_emod_of_nonneg hv.1
 have wv2 : IntKind.u64.wrap (v % 6) = v % 6 := IntWalk.u64_in _ (by omega)
 have hv6 : 0 ≤ v % 6 ∧ v % 6 < 6 := by omega
 generalize v % 6 = q at *
 have hrm := z0k hil
 have hfo := hsh.fin.1 _ hrm
 have hfg := hsh.rg _ hrm
 have ho200 := y2k (ztp hsm hrm)
 have hset := zmf d.rules i
 have htake := zto d.rules i
 have htake0 : List.take d.rules.length (d.rules.map z64) = d.rules.map z64 := List.take_of_length_le (by simp)
 generalize hre : nth d.rules i = r at *
 obtain ⟨rf, rt, rg, re, ro⟩ := r
 simp only at hfo hfg ho200
 have hpt := z0w ro
 have hpg := z06 rg
 have hdl : ∀ r' : Rule, ∀ a b : Int, z1z ⟨d.in_, d.out, a, b, d.rules.set i r', d.finals⟩ = .agg [.int .i64 d.in_, .int .i64 d.out, .int .i64 a, .int .i64 b, z3m (d.rules.set i r'), z43 d.finals] := fun _ _ _ => rfl
 rcases (show q = 0 ∨ q = 1 ∨ q = 2 ∨ q = 3 ∨ q = 4 ∨ q = 5 by omega) with rfl | rfl | rfl | rfl | rfl | rfl
 · obtain ⟨k, a, h1, h2⟩ := z6p (zav (i := i) (r := ⟨x, rt, rg, re, ro⟩) (a := d.states) (b := d.start) hsh hfo hfg)
   have e := hset ⟨x, rt, rg, re, ro⟩
   have e2 := htake ⟨x, rt, rg, re, ro⟩
   have hpp := z1h (d.rules.set i ⟨x, rt, rg, re, ro⟩)
   (repeat' (first | (simp (disch := omega) only [push_cast, ↓zz, seval, hPr, hPf, hn, hue, hve, wl, wt, hi, wi, wj, wv, wv2, hre, e, e2, hpp, hpt, hpg]) | (with_reducible first | refine And.intro ?_ ?_ | (first | refine z01 ?_ ?_ | refine z00 ?_ ?_) <;> intro hc <;> (try simp only [push_cast] at hc)) | ((with_reducible first | refine eK hS ?_ | refine eQ hS ?_ | refine eG hS ?_)) | ((with_reducible first | refine eK h1 ?_ | refine eQ h1 ?_ | refine eG h1 ?_)) | ((with_reducible first | refine eK h2 ?_ | refine eQ h2 ?_ | refine eG h2 ?_)) | ((with_reducible first | refine eK hA ?_ | refine eQ hA ?_ | refine eG hA ?_)) | ((with_reducible first | refine cK hS ?_ | refine cQ hS ?_ | refine cG hS ?_); (simp (disch := omega) only [push_cast, ↓zz, seval, hPr, hPf, hn, hue, hve, wl, wt, hi, wi, wj, wv, wv2, hre, e, e2, hpp, hpt, hpg]); (fail_if_success (with_reducible change False))) | ((with_reducible first | refine cK h1 ?_ | refine cQ h1 ?_ | refine cG h1 ?_); (simp (disch := omega) only [push_cast, ↓zz, seval, hPr, hPf, hn, hue, hve, wl, wt, hi, wi, wj, wv, wv2, hre, e, e2, hpp, hpt, hpg]); (fail_if_success (with_reducible change False))) | ((with_reducible first | refine cK h2 ?_ | refine cQ h2 ?_ | refine cG h2 ?_); (simp (disch := omega) only [push_cast, ↓zz, seval, hPr, hPf, hn, hue, hve, wl, wt, hi, wi, wj, wv, wv2, hre, e, e2, hpp, hpt, hpg]); (fail_if_success (with_reducible change False))) | ((with_reducible first | refine cK hA ?_ | refine cQ hA ?_ | refine cG hA ?_); (simp (disch := omega) only [push_cast, ↓zz, seval, hPr, hPf, hn, hue, hve, wl, wt, hi, wi, wj, wv, wv2, hre, e, e2, hpp, hpt, hpg]); (fail_if_success (with_reducible change False))) | omega | with_reducible intro _))
   all_goals (exfalso; revert hc; decide)
 · obtain ⟨k, a, h1, h2⟩ := z6p (zav (i := i) (r := ⟨rf, x, rg, re, ro⟩) (a := d.states) (b := d.start) hsh hfo hfg)
   have e := hset ⟨rf, x, rg, re, ro⟩
   have e2 := htake ⟨rf, x, rg, re, ro⟩
   have hpp := z1h (d.rules.set i ⟨rf, x, rg, re, ro⟩)
   (repeat' (first | (simp (disch := omega) only [push_cast, ↓zz, seval, hPr, hPf, hn, hue, hve, wl, wt, hi, wi, wj, wv, wv2, hre, e, e2, hpp, hpt, hpg]) | (with_reducible first | refine And.intro ?_ ?_ | (first | refine z01 ?_ ?_ | refine z00 ?_ ?_) <;> intro hc <;> (try simp only [push_cast] at hc)) | ((with_reducible first | refine eK hS ?_ | refine eQ hS ?_ | refine eG hS ?_)) | ((with_reducible first | refine eK h1 ?_ | refine eQ h1 ?_ | refine eG h1 ?_)) | ((with_reducible first | refine eK h2 ?_ | refine eQ h2 ?_ | refine eG h2 ?_)) | ((with_reducible first | refine eK hA ?_ | refine eQ hA ?_ | refine eG hA ?_)) | ((with_reducible first | refine cK hS ?_ | refine cQ hS ?_ | refine cG hS ?_); (simp (disch := omega) only [push_cast, ↓zz, seval, hPr, hPf, hn, hue, hve, wl, wt, hi, wi, wj, wv, wv2, hre, e, e2, hpp, hpt, hpg]); (fail_if_success (with_reducible change False))) | ((with_reducible first | refine cK h1 ?_ | refine cQ h1 ?_ | refine cG h1 ?_); (simp (disch := omega) only [push_cast, ↓zz, seval, hPr, hPf, hn, hue, hve, wl, wt, hi, wi, wj, wv, wv2, hre, e, e2, hpp, hpt, hpg]); (fail_if_success (with_reducible change False))) | ((with_reducible first | refine cK h2 ?_ | refine cQ h2 ?_ | refine cG h2 ?_); (simp (disch := omega) only [push_cast, ↓zz, seval, hPr, hPf, hn, hue, hve, wl, wt, hi, wi, wj, wv, wv2, hre, e, e2, hpp, hpt, hpg]); (fail_if_success (with_reducible change False))) | ((with_reducible first | refine cK hA ?_ | refine cQ hA ?_ | refine cG hA ?_); (simp (disch := omega) only [push_cast, ↓zz, seval, hPr, hPf, hn, hue, hve, wl, wt, hi, wi, wj, wv, wv2, hre, e, e2, hpp, hpt, hpg]); (fail_if_success (with_reducible change False))) | omega | with_reducible intro _))
   all_goals (exfalso; revert hc; decide)
 · obtain ⟨k, a, h1, h2⟩ := z6p (zav (i := i) (r := ⟨rf, rt, rg, x, ro⟩) (a := d.states) (b := d.start) hsh hfo hfg)
   have e := hset ⟨rf, rt, rg, x, ro⟩
   have e2 := htake ⟨rf, rt, rg, x, ro⟩
   have hpp := z1h (d.rules.set i ⟨rf, rt, rg, x, ro⟩)
   (repeat' (first | (simp (disch := omega) only [push_cast, ↓zz, seval, hPr, hPf, hn, hue, hve, wl, wt, hi, wi, wj, wv, wv2, hre, e, e2, hpp, hpt, hpg]) | (with_reducible first | refine And.intro ?_ ?_ | (first | refine z01 ?_ ?_ | refine z00 ?_ ?_) <;> intro hc <;> (try simp only [push_cast] at hc)) | ((with_reducible first | refine eK hS ?_ | refine eQ hS ?_ | refine eG hS ?_)) | ((with_reducible first | refine eK h1 ?_ | refine eQ h1 ?_ | refine eG h1 ?_)) | ((with_reducible first | refine eK h2 ?_ | refine eQ h2 ?_ | refine eG h2 ?_)) | ((with_reducible first | refine eK hA ?_ | refine eQ hA ?_ | refine eG hA ?_)) | ((with_reducible first | refine cK hS ?_ | refine cQ hS ?_ | refine cG hS ?_); (simp (disch := omega) only [push_cast, ↓zz, seval, hPr, hPf, hn, hue, hve, wl, wt, hi, wi, wj, wv, wv2, hre, e, e2, hpp, hpt, hpg]); (fail_if_success (with_reducible change False))) | ((with_reducible first | refine cK h1 ?_ | refine cQ h1 ?_ | refine cG h1 ?_); (simp (disch := omega) only [push_cast, ↓zz, seval, hPr, hPf, hn, hue, hve, wl, wt, hi, wi, wj, wv, wv2, hre, e, e2, hpp, hpt, hpg]); (fail_if_success (with_reducible change False))) | ((with_reducible first | refine cK h2 ?_ | refine cQ h2 ?_ | refine cG h2 ?_); (simp (disch := omega) only [push_cast, ↓zz, seval, hPr, hPf, hn, hue, hve, wl, wt, hi, wi, wj, wv, wv2, hre, e, e2, hpp, hpt, hpg]); (fail_if_success (with_reducible change False))) | ((with_reducible first | refine cK hA ?_ | refine cQ hA ?_ | refine cG hA ?_); (simp (disch := omega) only [push_cast, ↓zz, seval, hPr, hPf, hn, hue, hve, wl, wt, hi, wi, wj, wv, wv2, hre, e, e2, hpp, hpt, hpg]); (fail_if_success (with_reducible change False))) | omega | with_reducible intro _))
   all_goals (exfalso; revert hc; decide)
 · obtain ⟨k, a, h1, h2⟩ := z6p (show z5o ⟨d.in_, d.out, x, d.start, d.rules, d.finals⟩ from ⟨hsh.fin, hsh.rg, hsh.fg⟩)
   (repeat' (first | (simp (disch := omega) only [push_cast, ↓zz, seval, hPr, hPf, hn, hue, hve, wl, wt, hi, wi, wj, wv, wv2, hre, htake0, hpt, hpg]) | (with_reducible first | refine And.intro ?_ ?_ | (first | refine z01 ?_ ?_ | refine z00 ?_ ?_) <;> intro hc <;> (try simp only [push_cast] at hc)) | ((with_reducible first | refine eK hS ?_ | refine eQ hS ?_ | refine eG hS ?_)) | ((with_reducible first | refine eK h1 ?_ | refine eQ h1 ?_ | refine eG h1 ?_)) | ((with_reducible first | refine eK h2 ?_ | refine eQ h2 ?_ | refine eG h2 ?_)) | ((with_reducible first | refine eK hA ?_ | refine eQ hA ?_ | refine eG hA ?_)) | ((with_reducible first | refine cK hS ?_ | refine cQ hS ?_ | refine cG hS ?_); (simp (disch := omega) only [push_cast, ↓zz, seval, hPr, hPf, hn, hue, hve, wl, wt, hi, wi, wj, wv, wv2, hre, htake0, hpt, hpg]); (fail_if_success (with_reducible change False))) | ((with_reducible first | refine cK h1 ?_ | refine cQ h1 ?_ | refine cG h1 ?_); (simp (disch := omega) only [push_cast, ↓zz, seval, hPr, hPf, hn, hue, hve, wl, wt, hi, wi, wj, wv, wv2, hre, htake0, hpt, hpg]); (fail_if_success (with_reducible change False))) | ((with_reducible first | refine cK h2 ?_ | refine cQ h2 ?_ | refine cG h2 ?_); (simp (disch := omega) only [push_cast, ↓zz, seval, hPr, hPf, hn, hue, hve, wl, wt, hi, wi, wj, wv, wv2, hre, htake0, hpt, hpg]); (fail_if_success (with_reducible change False))) | ((with_reducible first | refine cK hA ?_ | refine cQ hA ?_ | refine cG hA ?_); (simp (disch := omega) only [push_cast, ↓zz, seval, hPr, hPf, hn, hue, hve, wl, wt, hi, wi, wj, wv, wv2, hre, htake0, hpt, hpg]); (fail_if_success (with_reducible change False))) | omega | with_reducible intro _))
   all_goals (exfalso; revert hc; decide)
 · obtain ⟨k, a, h1, h2⟩ := z6p (show z5o ⟨d.in_, d.out, d.states, x, d.rules, d.finals⟩ from ⟨hsh.fin, hsh.rg, hsh.fg⟩)
   (repeat' (first | (simp (disch := omega) only [push_cast, ↓zz, seval, hPr, hPf, hn, hue, hve, wl, wt, hi, wi, wj, wv, wv2, hre, htake0, hpt, hpg]) | (with_reducible first | refine And.intro ?_ ?_ | (first | refine z01 ?_ ?_ | refine z00 ?_ ?_) <;> intro hc <;> (try simp only [push_cast] at hc)) | ((with_reducible first | refine eK hS ?_ | refine eQ hS ?_ | refine eG hS ?_)) | ((with_reducible first | refine eK h1 ?_ | refine eQ h1 ?_ | refine eG h1 ?_)) | ((with_reducible first | refine eK h2 ?_ | refine eQ h2 ?_ | refine eG h2 ?_)) | ((with_reducible first | refine eK hA ?_ | refine eQ hA ?_ | refine eG hA ?_)) | ((with_reducible first | refine cK hS ?_ | refine cQ hS ?_ | refine cG hS ?_); (simp (disch := omega) only [push_cast, ↓zz, seval, hPr, hPf, hn, hue, hve, wl, wt, hi, wi, wj, wv, wv2, hre, htake0, hpt, hpg]); (fail_if_success (with_reducible change False))) | ((with_reducible first | refine cK h1 ?_ | refine cQ h1 ?_ | refine cG h1 ?_); (simp (disch := omega) only [push_cast, ↓zz, seval, hPr, hPf, hn, hue, hve, wl, wt, hi, wi, wj, wv, wv2, hre, htake0, hpt, hpg]); (fail_if_success (with_reducible change False))) | ((with_reducible first | refine cK h2 ?_ | refine cQ h2 ?_ | refine cG h2 ?_); (simp (disch := omega) only [push_cast, ↓zz, seval, hPr, hPf, hn, hue, hve, wl, wt, hi, wi, wj, wv, wv2, hre, htake0, hpt, hpg]); (fail_if_success (with_reducible change False))) | ((with_reducible first | refine cK hA ?_ | refine cQ hA ?_ | refine cG hA ?_); (simp (disch := omega) only [push_cast, ↓zz, seval, hPr, hPf, hn, hue, hve, wl, wt, hi, wi, wj, wv, wv2, hre, htake0, hpt, hpg]); (fail_if_success (with_reducible change False))) | omega | with_reducible intro _))
   all_goals (exfalso; revert hc; decide)
 · obtain ⟨k, a, h1, h2⟩ := z6p (zav (i := i) (r := ⟨rf, rt, rg, re, ro ++ [⟨0, 0, 21, 0, x, []⟩]⟩) (a := d.states) (b := d.start) hsh (fun t ht => by
     rcases List.mem_append.1 ht with ht | ht
     · exact hfo t ht
     · simp only [List.mem_singleton] at ht; subst ht; simp) hfg)
   have hW := y2m rf rt rg re ro x
   have hpw := ztr rf rt rg re ro x
   have hpp : z0l ((d.rules.map z64).set i (ztq rf rt rg re ro x)) = true := y2n hPr (by simp only [AV.pure, z0l, hpg, hpw]; rfl)
   have h1 := z95 h1 (zmg hW)
   have h2 := z95 h2 (zmg hW)
   have hT : List.take (ro.length + 1) (ro.map z1m ++ [y2l x]) = ro.map z1m ++ [y2l x] := List.take_of_length_le (by simp)
   by_cases hro : ro = []
   · subst hro
     (repeat' (first | (simp (disch := omega) only [push_cast, ↓zz, seval, hPr, hPf, hn, hue, hve, wl, wt, hi, wi, wj, wv, wv2, hre, hpp, hpt, hpg]) | (with_reducible first | refine And.intro ?_ ?_ | (first | refine z01 ?_ ?_ | refine z00 ?_ ?_) <;> intro hc <;> (try simp only [push_cast] at hc)) | ((with_reducible first | refine eK hS ?_ | refine eQ hS ?_ | refine eG hS ?_)) | ((with_reducible first | refine eK h1 ?_ | refine eQ h1 ?_ | refine eG h1 ?_)) | ((with_reducible first | refine eK h2 ?_ | refine eQ h2 ?_ | refine eG h2 ?_)) | ((with_reducible first | refine eK hA ?_ | refine eQ hA ?_ | refine eG hA ?_)) | ((with_reducible first | refine cK hS ?_ | refine cQ hS ?_ | refine cG hS ?_); (simp (disch := omega) only [push_cast, ↓zz, seval, hPr, hPf, hn, hue, hve, wl, wt, hi, wi, wj, wv, wv2, hre, hpp, hpt, hpg]); (fail_if_success (with_reducible change False))) | ((with_reducible first | refine cK h1 ?_ | refine cQ h1 ?_ | refine cG h1 ?_); (simp (disch := omega) only [push_cast, ↓zz, seval, hPr, hPf, hn, hue, hve, wl, wt, hi, wi, wj, wv, wv2, hre, hpp, hpt, hpg]); (fail_if_success (with_reducible change False))) | ((with_reducible first | refine cK h2 ?_ | refine cQ h2 ?_ | refine cG h2 ?_); (simp (disch := omega) only [push_cast, ↓zz, seval, hPr, hPf, hn, hue, hve, wl, wt, hi, wi, wj, wv, wv2, hre, hpp, hpt, hpg]); (fail_if_success (with_reducible change False))) | ((with_reducible first | refine cK hA ?_ | refine cQ hA ?_ | refine cG hA ?_); (simp (disch := omega) only [push_cast, ↓zz, seval, hPr, hPf, hn, hue, hve, wl, wt, hi, wi, wj, wv, wv2, hre, hpp, hpt, hpg]); (fail_if_success (with_reducible change False))) | omega | with_reducible intro _))
     all_goals first
       | refine (zr4 (Y := ztq rf rt rg re [] x) (by simp) hPr ?_ ?_).1
       | refine (zr4 (Y := ztq rf rt rg re [] x) (by simp) hPr ?_ ?_).2
     all_goals (simp (disch := omega) only [push_cast, ↓zz, seval, hpt, hpg])
     all_goals rfl
   · have hem : (ro.map z1m).isEmpty = false := by
       cases ro with
       | nil => exact absurd rfl hro
       | cons _ _ => rfl
     (repeat' (first | (simp (disch := omega) only [push_cast, ↓zz, seval, hPr, hPf, hn, hue, hve, wl, wt, hi, wi, wj, wv, wv2, hre, hpp, hpt, hpg, hem]) | (with_reducible first | refine And.intro ?_ ?_ | (first | refine z01 ?_ ?_ | refine z00 ?_ ?_) <;> intro hc <;> (try simp only [push_cast] at hc)) | ((with_reducible first | refine eK hS ?_ | refine eQ hS ?_ | refine eG hS ?_)) | ((with_reducible first | refine eK h1 ?_ | refine eQ h1 ?_ | refine eG h1 ?_)) | ((with_reducible first | refine eK h2 ?_ | refine eQ h2 ?_ | refine eG h2 ?_)) | ((with_reducible first | refine eK hA ?_ | refine eQ hA ?_ | refine eG hA ?_)) | ((with_reducible first | refine cK hS ?_ | refine cQ hS ?_ | refine cG hS ?_); (simp (disch := omega) only [push_cast, ↓zz, seval, hPr, hPf, hn, hue, hve, wl, wt, hi, wi, wj, wv, wv2, hre, hpp, hpt, hpg, hem]); (fail_if_success (with_reducible change False))) | ((with_reducible first | refine cK h1 ?_ | refine cQ h1 ?_ | refine cG h1 ?_); (simp (disch := omega) only [push_cast, ↓zz, seval, hPr, hPf, hn, hue, hve, wl, wt, hi, wi, wj, wv, wv2, hre, hpp, hpt, hpg, hem]); (fail_if_success (with_reducible change False))) | ((with_reducible first | refine cK h2 ?_ | refine cQ h2 ?_ | refine cG h2 ?_); (simp (disch := omega) only [push_cast, ↓zz, seval, hPr, hPf, hn, hue, hve, wl, wt, hi, wi, wj, wv, wv2, hre, hpp, hpt, hpg, hem]); (fail_if_success (with_reducible change False))) | ((with_reducible first | refine cK hA ?_ | refine cQ hA ?_ | refine cG hA ?_); (simp (disch := omega) only [push_cast, ↓zz, seval, hPr, hPf, hn, hue, hve, wl, wt, hi, wi, wj, wv, wv2, hre, hpp, hpt, hpg, hem]); (fail_if_success (with_reducible change False))) | omega | with_reducible intro _))
     all_goals first
       | refine (zr4 (Y := ztq rf rt rg re ro x) (by simp) hPr ?_ ?_).1
       | refine (zr4 (Y := ztq rf rt rg re ro x) (by simp) hPr ?_ ?_).2
     all_goals (try (simp (disch := omega) only [push_cast, ↓zz, seval, hpt, hpg, hT, hpw]))
     all_goals (try rfl)
end Go.Proofs.Yticodgjinajkpaa
