/-
  The document's guards and terms, how great a description is: the walk.
  What is wrong first with a description, as the document says it; the law DescWheres.
  The law DescWheres.
  The law DescSpoilt.
-/
import Derived.Test.YticodgjinajkpaaDA8
set_option linter.unusedSimpArgs false
set_option linter.unusedVariables false
namespace Go.Proofs.Yticodgjinajkpaa
open Abs
theorem y6n {α : Type} [Inhabited α] {p : α → Bool} {l : List α} {k : Nat} (h : k < l.length) : (l.drop k).all p = (p (nth l k) && (l.drop (k + 1)).all p) := by rw [drop_at h, List.all_cons]
theorem zc2 (i : Int) (gs : List (List Span)) (hl : gs.length ≤ 9223372036854775807) : PC Try.prog 35 [.int .i64 i, z0b gs] (.bool (z2l i gs)) := by
 have hP := z06 gs
 have hD := zc1 i
 refine z0t zf3 ?_
 unfold z8d
 (repeat' (first | (simp (disch := omega) only [push_cast, ↓zz, seval]) | (with_reducible first | refine And.intro ?_ ?_ | (first | refine z01 ?_ ?_ | refine z00 ?_ ?_) <;> intro hc <;> (try simp only [push_cast] at hc)) | omega | with_reducible intro _))
 refine z0i (z0j (fun (k : Nat) => k ≤ gs.length ∧ gs.all (z7j i) = (gs.drop k).all (z7j i)) (fun k => gs.length - k)
   (fun k => [(0, .int .i64 i), (1, z0b gs), (5, .int .i64 k)]) (fun k => []) (fun _ _ => []) 0 ⟨by simp, rfl⟩ ?_ ?_)
 · (repeat' (first | (simp (disch := omega) only [push_cast, ↓zz, seval, hP]) | (with_reducible first | refine And.intro ?_ ?_ | (first | refine z01 ?_ ?_ | refine z00 ?_ ?_) <;> intro hc <;> (try simp only [push_cast] at hc)) | omega | with_reducible intro _))
 rintro k ⟨k1, k2⟩
 rcases Nat.lt_or_ge k gs.length with hk | hk
 · rw [y6n hk, ← zgz, zqa] at k2
   generalize hge : nth gs k = g at *
   have hpg := z2b g
   have hno : z2l i gs = (decide ((gs.length : Int) ≤ 4) && gs.all (z7j i)) := rfl
   rw [hno]
   refine W_T ?_
   by_cases g1 : g.length ≠ 0 ∧ g.length ≤ 64
   · rw [decide_eq_true g1.1, decide_eq_true g1.2, Bool.true_and, Bool.true_and] at k2
     have hN := z83 g (by omega)
     have hS := zrr g (z0d g) (by omega)
     have hM := zax g (domL i) 2 (by omega) (by have := ziu i; omega)
     rw [zgg] at hM
     have hlen : (z41 g (domL i)).length ≤ 9223372036854775807 ∨ True := .inr trivial
     by_cases h2 : g = z0d g
     · rw [decide_eq_true h2] at hS
       rw [decide_eq_true h2, Bool.true_and] at k2
       by_cases h3 : z41 g (domL i) = []
       · rw [h3] at hM
         rw [decide_eq_true h3, Bool.true_and] at k2
         (repeat' (first | (simp (disch := omega) only [push_cast, ↓zz, seval, hP, hge, hpg]) | (with_reducible first | refine And.intro ?_ ?_ | (first | refine z01 ?_ ?_ | refine z00 ?_ ?_) <;> intro hc <;> (try simp only [push_cast] at hc)) | ((with_reducible first | refine eK hN ?_ | refine eQ hN ?_ | refine eG hN ?_)) | ((with_reducible first | refine eK hS ?_ | refine eQ hS ?_ | refine eG hS ?_)) | ((with_reducible first | refine eK hD ?_ | refine eQ hD ?_ | refine eG hD ?_)) | ((with_reducible first | refine eK hM ?_ | refine eQ hM ?_ | refine eG hM ?_)) | ((with_reducible first | refine cK hN ?_ | refine cQ hN ?_ | refine cG hN ?_); (simp (disch := omega) only [push_cast, ↓zz, seval, hP, hge, hpg]); (fail_if_success (with_reducible change False))) | ((with_reducible first | refine cK hS ?_ | refine cQ hS ?_ | refine cG hS ?_); (simp (disch := omega) only [push_cast, ↓zz, seval, hP, hge, hpg]); (fail_if_success (with_reducible change False))) | ((with_reducible first | refine cK hD ?_ | refine cQ hD ?_ | refine cG hD ?_); (simp (disch := omega) only [push_cast, ↓zz, seval, hP, hge, hpg]); (fail_if_success (with_reducible change False))) | ((with_reducible first | refine cK hM ?_ | refine cQ hM ?_ | refine cG hM ?_); (simp (disch := omega) only [push_cast, ↓zz, seval, hP, hge, hpg]); (fail_if_success (with_reducible change False))) | omega | with_reducible intro _))
         all_goals first
           | exact ⟨k + 1, by push_cast, ⟨by omega, k2⟩, by omega⟩
           | trace_state
       · have hpos := List.length_pos_iff.2 h3
         rw [decide_eq_false h3, Bool.false_and] at k2
         rw [k2, Bool.and_false]
         generalize z41 g (domL i) = m at *
         (repeat' (first | (simp (disch := omega) only [push_cast, ↓zz, seval, hP, hge, hpg]) | (with_reducible first | refine And.intro ?_ ?_ | (first | refine z01 ?_ ?_ | refine z00 ?_ ?_) <;> intro hc <;> (try simp only [push_cast] at hc)) | ((with_reducible first | refine eK hN ?_ | refine eQ hN ?_ | refine eG hN ?_)) | ((with_reducible first | refine eK hS ?_ | refine eQ hS ?_ | refine eG hS ?_)) | ((with_reducible first | refine eK hD ?_ | refine eQ hD ?_ | refine eG hD ?_)) | ((with_reducible first | refine eK hM ?_ | refine eQ hM ?_ | refine eG hM ?_)) | ((with_reducible first | refine cK hN ?_ | refine cQ hN ?_ | refine cG hN ?_); (simp (disch := omega) only [push_cast, ↓zz, seval, hP, hge, hpg]); (fail_if_success (with_reducible change False))) | ((with_reducible first | refine cK hS ?_ | refine cQ hS ?_ | refine cG hS ?_); (simp (disch := omega) only [push_cast, ↓zz, seval, hP, hge, hpg]); (fail_if_success (with_reducible change False))) | ((with_reducible first | refine cK hD ?_ | refine cQ hD ?_ | refine cG hD ?_); (simp (disch := omega) only [push_cast, ↓zz, seval, hP, hge, hpg]); (fail_if_success (with_reducible change False))) | ((with_reducible first | refine cK hM ?_ | refine cQ hM ?_ | refine cG hM ?_); (simp (disch := omega) only [push_cast, ↓zz, seval, hP, hge, hpg]); (fail_if_success (with_reducible change False))) | omega | with_reducible intro _))
     · rw [decide_eq_false h2] at hS
       rw [decide_eq_false h2, Bool.false_and, Bool.false_and] at k2
       rw [k2, Bool.and_false]
       (repeat' (first | (simp (disch := omega) only [push_cast, ↓zz, seval, hP, hge, hpg]) | (with_reducible first | refine And.intro ?_ ?_ | (first | refine z01 ?_ ?_ | refine z00 ?_ ?_) <;> intro hc <;> (try simp only [push_cast] at hc)) | ((with_reducible first | refine eK hN ?_ | refine eQ hN ?_ | refine eG hN ?_)) | ((with_reducible first | refine eK hS ?_ | refine eQ hS ?_ | refine eG hS ?_)) | ((with_reducible first | refine cK hN ?_ | refine cQ hN ?_ | refine cG hN ?_); (simp (disch := omega) only [push_cast, ↓zz, seval, hP, hge, hpg]); (fail_if_success (with_reducible change False))) | ((with_reducible first | refine cK hS ?_ | refine cQ hS ?_ | refine cG hS ?_); (simp (disch := omega) only [push_cast, ↓zz, seval, hP, hge, hpg]); (fail_if_success (with_reducible change False))) | omega | with_reducible intro _))
   · have : (decide (g.length ≠ 0) && (decide (g.length ≤ 64) && (decide (g = z0d g) && decide (z41 g (domL i) = [])))) = false := by
       by_cases h : g.length ≠ 0
       · rw [decide_eq_false (p := g.length ≤ 64) (by omega), Bool.false_and, Bool.and_false]
       · rw [decide_eq_false h, Bool.false_and]
     rw [this, Bool.false_and] at k2
     rw [k2, Bool.and_false]
     (repeat' (first | (simp (disch := omega) only [push_cast, ↓zz, seval, hP, hge, hpg]) | (with_reducible first | refine And.intro ?_ ?_ | (first | refine z01 ?_ ?_ | refine z00 ?_ ?_) <;> intro hc <;> (try simp only [push_cast] at hc)) | omega | with_reducible intro _))
 · rw [List.drop_of_length_le hk, List.all_nil] at k2
   have hno : z2l i gs = decide ((gs.length : Int) ≤ 4) := by rw [z2l, k2, Bool.and_true]
   rw [hno]
   refine W_T ?_
   (repeat' (first | (simp (disch := omega) only [push_cast, ↓zz, seval, hP]) | (with_reducible first | refine And.intro ?_ ?_ | (first | refine z01 ?_ ?_ | refine z00 ?_ ?_) <;> intro hc <;> (try simp only [push_cast] at hc)) | omega | with_reducible intro _))
   all_goals trace_state
theorem z7m (d : Desc) (out : List Term) (gs : List (List Span)) (ho : ∀ t ∈ out, t.parts.length < 1000000000000) (hG : GOk d.in_ gs) :
   PC Try.prog 36 [z1y d, z4d out, z0b gs] (.bool (z2q d out gs)) := by
 have hP := z06 gs
 have hT := z0w out
 refine z0t zf4 ?_
 unfold z8e
 by_cases h4 : 64 < out.length
 · rw [z2q, decide_eq_false (by omega), Bool.false_and]
   (repeat' (first | (simp (disch := omega) only [push_cast, ↓zz, seval]) | (with_reducible first | refine And.intro ?_ ?_ | (first | refine z01 ?_ ?_ | refine z00 ?_ ?_) <;> intro hc <;> (try simp only [push_cast] at hc)) | omega | with_reducible intro _))
   refine z0i (z0j (fun (k : Nat) => k = 0) (fun k => 0)
     (fun k => [(1, z4d out), (2, z0b gs), (3, .ptr 0 1 0 0), (7, .int .i64 k)]) (fun s => [⟨6, 1, true, [z1y d]⟩]) (fun env _ => [z0r 1 (env 3)]) 0 rfl ?_ ?_)
   · (repeat' (first | (simp (disch := omega) only [push_cast, ↓zz, seval, hP, hT]) | (with_reducible first | refine And.intro ?_ ?_ | (first | refine z01 ?_ ?_ | refine z00 ?_ ?_) <;> intro hc <;> (try simp only [push_cast] at hc)) | omega | with_reducible intro _))
   rintro k rfl
   refine W_T ?_
   (repeat' (first | (simp (disch := omega) only [push_cast, ↓zz, seval, hP, hT]) | (with_reducible first | refine And.intro ?_ ?_ | (first | refine z01 ?_ ?_ | refine z00 ?_ ?_) <;> intro hc <;> (try simp only [push_cast] at hc)) | omega | with_reducible intro _))
 rw [z2q, decide_eq_true (by omega), Bool.true_and]
 (repeat' (first | (simp (disch := omega) only [push_cast, ↓zz, seval]) | (with_reducible first | refine And.intro ?_ ?_ | (first | refine z01 ?_ ?_ | refine z00 ?_ ?_) <;> intro hc <;> (try simp only [push_cast] at hc)) | omega | with_reducible intro _))
 refine z0i (z0j (fun (k : Nat) => k ≤ out.length ∧ (out.all fun t => zc4 t d.in_ d.out gs) = (out.drop k).all fun t => zc4 t d.in_ d.out gs) (fun k => out.length - k)
   (fun k => [(1, z4d out), (2, z0b gs), (3, .ptr 0 1 0 0), (7, .int .i64 k)]) (fun s => [⟨6, 1, true, [z1y d]⟩]) (fun env _ => [z0r 1 (env 3)]) 0 ⟨by simp, rfl⟩ ?_ ?_)
 · (repeat' (first | (simp (disch := omega) only [push_cast, ↓zz, seval, hP, hT]) | (with_reducible first | refine And.intro ?_ ?_ | (first | refine z01 ?_ ?_ | refine z00 ?_ ?_) <;> intro hc <;> (try simp only [push_cast] at hc)) | omega | with_reducible intro _))
 rintro k ⟨h1, h2⟩
 rcases Nat.lt_or_ge k out.length with hk | hk
 · rw [drop_at hk, List.all_cons] at h2
   have hF := zsv (nth out k) d.in_ d.out gs (ho _ (z0k hk)) hG
   rw [zxj hG] at hF
   refine W_T ?_
   (repeat' (first | (simp (disch := omega) only [push_cast, ↓zz, seval, hP, hT]) | (with_reducible first | refine And.intro ?_ ?_ | (first | refine z01 ?_ ?_ | refine z00 ?_ ?_) <;> intro hc <;> (try simp only [push_cast] at hc)) | ((with_reducible first | refine eK hF ?_ | refine eQ hF ?_ | refine eG hF ?_)) | ((with_reducible first | refine cK hF ?_ | refine cQ hF ?_ | refine cG hF ?_); (simp (disch := omega) only [push_cast, ↓zz, seval, hP, hT]); (fail_if_success (with_reducible change False))) | omega | with_reducible intro _))
   all_goals first
     | (rw [h2]; simp [*]; done)
     | exact ⟨k + 1, by push_cast, ⟨by omega, by rw [h2]; simp [*]⟩, by omega⟩
 · rw [List.drop_of_length_le hk, List.all_nil] at h2
   refine W_T ?_
   (repeat' (first | (simp (disch := omega) only [push_cast, ↓zz, seval, hP, hT, h2]) | (with_reducible first | refine And.intro ?_ ?_ | (first | refine z01 ?_ ?_ | refine z00 ?_ ?_) <;> intro hc <;> (try simp only [push_cast] at hc)) | omega | with_reducible intro _))
   all_goals trace_state
def sumT {α : Type} (f : α → Int) (l : List α) : Int := (l.map f).sum
theorem zj2 {α : Type} [Inhabited α] {f : α → Int} {l : List α} {k : Nat} (h : k < l.length) : sumT f (l.take (k + 1)) = sumT f (l.take k) + f (nth l k) := by rw [take_at h]; simp [sumT]
theorem z4k {α : Type} {f : α → Int} {B : Int} (hf : ∀ x, 0 ≤ f x ∧ f x ≤ B) : ∀ l : List α, 0 ≤ sumT f l ∧ sumT f l ≤ l.length * B
 | [] => by simp [sumT]
 | x :: l => by
   have h1 := z4k hf l
   have h2 := hf x
   have e : sumT f (x :: l) = f x + sumT f l := by simp [sumT]
   have e2 : ((x :: l).length : Int) * B = l.length * B + B := by push_cast [List.length_cons]; rw [Int.add_mul, Int.one_mul]
   omega
theorem z6u {α : Type} {f : α → Int} (hf : ∀ x, 0 ≤ f x) : ∀ {l : List α} {x : α}, x ∈ l → f x ≤ sumT f l
 | y :: l, x, h => by
   have e : sumT f (y :: l) = f y + sumT f l := by simp [sumT]
   have hn : ∀ m : List α, 0 ≤ sumT f m := fun m => by
     induction m with
     | nil => simp [sumT]
     | cons z m ih =>
       have e : sumT f (z :: m) = f z + sumT f m := by simp [sumT]
       have := hf z
       omega
   have h1 := hf y
   have h2 := hn l
   rcases List.mem_cons.1 h with rfl | h
   · omega
   · have := z6u hf h
     omega
def szG (g : List Span) : Int := min (g.length : Int) 4000
def szT (t : Term) : Int := 1 + min (t.parts.length : Int) 4000
theorem zqb (g : List Span) : 0 ≤ szG g ∧ szG g ≤ 4000 := by unfold szG; omega
theorem zqc (t : Term) : 0 ≤ szT t ∧ szT t ≤ 4001 := by unfold szT; omega
def z5j (gs : List (List Span)) (out : List Term) : Int := if 100 < gs.length ∨ 200 < out.length then 4000 else 1 + sumT szG gs + sumT szT out
theorem zh0 (gs : List (List Span)) (out : List Term) : PC Try.prog 27 [z0b gs, z4d out] (.int .i64 (z5j gs out)) := by
 have hP := z06 gs
 have hT := z0w out
 refine z0t zk6 ?_
 unfold zb8
 by_cases hb : 100 < gs.length ∨ 200 < out.length
 · rw [z5j, if_pos hb]
   (repeat' (first | (simp (disch := omega) only [push_cast, ↓zz, seval, hP, hT]) | (with_reducible first | refine And.intro ?_ ?_ | (first | refine z01 ?_ ?_ | refine z00 ?_ ?_) <;> intro hc <;> (try simp only [push_cast] at hc)) | omega | with_reducible intro _))
 rw [z5j, if_neg hb]
 (repeat' (first | (simp (disch := omega) only [push_cast, ↓zz, seval, hP, hT]) | (with_reducible first | refine And.intro ?_ ?_ | (first | refine z01 ?_ ?_ | refine z00 ?_ ?_) <;> intro hc <;> (try simp only [push_cast] at hc)) | omega | with_reducible intro _))
 refine z0i (z0j (fun (k : Nat) => k ≤ gs.length) (fun k => gs.length - k)
   (fun k => [(0, z0b gs), (1, z4d out), (5, .int .i64 (1 + sumT szG (gs.take k))), (6, .int .i64 k)]) (fun k => []) (fun _ _ => []) 0 (by simp) ?_ ?_)
 · have e0 : sumT szG ([] : List (List Span)) = 0 := rfl
   (repeat' (first | (simp (disch := omega) only [push_cast, ↓zz, seval, hP, hT, e0]) | (with_reducible first | refine And.intro ?_ ?_ | (first | refine z01 ?_ ?_ | refine z00 ?_ ?_) <;> intro hc <;> (try simp only [push_cast] at hc)) | omega | with_reducible intro _))
 intro k hk
 have hb1 := z4k zqb (gs.take k)
 have hb2 : ((gs.take k).length : Int) * 4000 ≤ 100 * 4000 := Int.mul_le_mul_of_nonneg_right (by simp; omega) (by omega)
 rcases Nat.lt_or_ge k gs.length with hkl | hkl
 · have hst := zj2 (f := szG) hkl
   have hx := zqb (nth gs k)
   have hsz : min ((nth gs k).length : Int) 4000 = szG (nth gs k) := rfl
   generalize hge : nth gs k = g at *
   generalize sumT szG (gs.take k) = n at *
   have hw : IntKind.i64.wrap (1 + n + szG g) = 1 + n + szG g := IntWalk.i64_in _ (by omega)
   refine W_T ?_
   (repeat' (first | (simp (disch := omega) only [push_cast, ↓zz, seval, hP, hT, hge, hsz, hw]) | (with_reducible first | refine And.intro ?_ ?_ | (first | refine z01 ?_ ?_ | refine z00 ?_ ?_) <;> intro hc <;> (try simp only [push_cast] at hc)) | omega | with_reducible intro _))
   all_goals
     refine ⟨k + 1, ?_⟩
     (repeat' (first | (simp (disch := omega) only [push_cast, ↓zz, seval, hst]) | (with_reducible first | refine And.intro ?_ ?_ | (first | refine z01 ?_ ?_ | refine z00 ?_ ?_) <;> intro hc <;> (try simp only [push_cast] at hc)) | omega | with_reducible intro _))
   all_goals first
     | omega
     | trace_state
 · have hkt : gs.take k = gs := List.take_of_length_le hkl
   rw [hkt] at hb1 hb2 ⊢
   generalize sumT szG gs = n at *
   refine W_T ?_
   (repeat' (first | (simp (disch := omega) only [push_cast, ↓zz, seval, hP, hT]) | (with_reducible first | refine And.intro ?_ ?_ | (first | refine z01 ?_ ?_ | refine z00 ?_ ?_) <;> intro hc <;> (try simp only [push_cast] at hc)) | omega | with_reducible intro _))
   refine z0i (z0j (fun (k : Nat) => k ≤ out.length) (fun k => out.length - k)
     (fun k => [(1, z4d out), (5, .int .i64 (1 + n + sumT szT (out.take k))), (7, .int .i64 k)]) (fun k => []) (fun _ _ => []) 0 (by simp) ?_ ?_)
   · have e0 : sumT szT ([] : List Term) = 0 := rfl
     (repeat' (first | (simp (disch := omega) only [push_cast, ↓zz, seval, hP, hT, e0, Int.add_zero]) | (with_reducible first | refine And.intro ?_ ?_ | (first | refine z01 ?_ ?_ | refine z00 ?_ ?_) <;> intro hc <;> (try simp only [push_cast] at hc)) | omega | with_reducible intro _))
   intro j hj
   have hb3 := z4k zqc (out.take j)
   have hb4 : ((out.take j).length : Int) * 4001 ≤ 200 * 4001 := Int.mul_le_mul_of_nonneg_right (by simp; omega) (by omega)
   rcases Nat.lt_or_ge j out.length with hjl | hjl
   · have hst := zj2 (f := szT) hjl
     have hx := zqc (nth out j)
     have hsz : szT (nth out j) = 1 + min ((nth out j).parts.length : Int) 4000 := rfl
     generalize hge : nth out j = t at *
     generalize sumT szT (out.take j) = m at *
     generalize hze : min (t.parts.length : Int) 4000 = z at *
     have hw : IntKind.i64.wrap (1 + n + m + 1) = 1 + n + m + 1 := IntWalk.i64_in _ (by omega)
     have hw2 : IntKind.i64.wrap (1 + n + m + 1 + z) = 1 + n + m + 1 + z := IntWalk.i64_in _ (by omega)
     refine W_T ?_
     (repeat' (first | (simp (disch := omega) only [push_cast, ↓zz, seval, hP, hT, hge, hze, hw, hw2]) | (with_reducible first | refine And.intro ?_ ?_ | (first | refine z01 ?_ ?_ | refine z00 ?_ ?_) <;> intro hc <;> (try simp only [push_cast] at hc)) | omega | with_reducible intro _))
     all_goals
       refine ⟨j + 1, ?_⟩
       (repeat' (first | (simp (disch := omega) only [push_cast, ↓zz, seval, hst]) | (with_reducible first | refine And.intro ?_ ?_ | (first | refine z01 ?_ ?_ | refine z00 ?_ ?_) <;> intro hc <;> (try simp only [push_cast] at hc)) | omega | with_reducible intro _))
     all_goals first
       | omega
       | trace_state
   · have hjt : out.take j = out := List.take_of_length_le hjl
     rw [hjt]
     refine W_T ?_
     (repeat' (first | (simp (disch := omega) only [push_cast, ↓zz, seval, hP, hT]) | (with_reducible first | refine And.intro ?_ ?_ | (first | refine z01 ?_ ?_ | refine z00 ?_ ?_) <;> intro hc <;> (try simp only [push_cast] at hc)) | omega | with_reducible intro _))
     all_goals trace_state
theorem z7n (gs : List (List Span)) (out : List Term) : 0 ≤ z5j gs out ∧ z5j gs out ≤ 2000000 := by
 unfold z5j
 have h1 := z4k zqb gs
 have h2 := z4k zqc out
 split
 · omega
 · omega
def szR (r : Rule) : Int := z5j r.guards r.out
def szF (f : z6z) : Int := z5j f.guards f.out
def z6y (d : Desc) : Bool := decide (d.rules.length ≤ 80 ∧ d.finals.length ≤ 80) && decide (sumT szR d.rules + sumT szF d.finals ≤ 1500)
theorem zev (d : Desc) : PC Try.prog 10 [z1y d] (.bool (z6y d)) := by
 have hPr := z1h d.rules
 have hPf := z1v d.finals
 have sR : ∀ r, 0 ≤ szR r ∧ szR r ≤ 2000000 := fun r => z7n _ _
 have sF : ∀ f, 0 ≤ szF f ∧ szF f ≤ 2000000 := fun r => z7n _ _
 refine z0t zhn ?_
 unfold z9g
 by_cases hb : d.rules.length ≤ 80 ∧ d.finals.length ≤ 80
 · rw [z6y, decide_eq_true hb, Bool.true_and]
   (repeat' (first | (simp (disch := omega) only [push_cast, ↓zz, seval]) | (with_reducible first | refine And.intro ?_ ?_ | (first | refine z01 ?_ ?_ | refine z00 ?_ ?_) <;> intro hc <;> (try simp only [push_cast] at hc)) | omega | with_reducible intro _))
   refine z0i (z0j (fun (k : Nat) => k ≤ d.rules.length) (fun k => d.rules.length - k)
     (fun k => [(1, .ptr 0 1 0 0), (3, .int .i64 (sumT szR (d.rules.take k))), (4, .int .i64 k)]) (fun k => [⟨6, 1, true, [z1y d]⟩]) (fun env _ => [z0r 1 (env 1)]) 0 (by simp) ?_ ?_)
   · have e0 : sumT szR ([] : List Rule) = 0 := rfl
     (repeat' (first | (simp (disch := omega) only [push_cast, ↓zz, seval, hPr, hPf, e0]) | (with_reducible first | refine And.intro ?_ ?_ | (first | refine z01 ?_ ?_ | refine z00 ?_ ?_) <;> intro hc <;> (try simp only [push_cast] at hc)) | omega | with_reducible intro _))
   intro k hk
   have hb1 := z4k sR (d.rules.take k)
   have hb2 : ((d.rules.take k).length : Int) * 2000000 ≤ 80 * 2000000 := Int.mul_le_mul_of_nonneg_right (by simp; omega) (by omega)
   rcases Nat.lt_or_ge k d.rules.length with hkl | hkl
   · have hst := zj2 (f := szR) hkl
     have hx := sR (nth d.rules k)
     have hS := zh0 (nth d.rules k).guards (nth d.rules k).out
     have hsz : z5j (nth d.rules k).guards (nth d.rules k).out = szR (nth d.rules k) := rfl
     rw [hsz] at hS
     generalize hge : nth d.rules k = r at *
     generalize sumT szR (d.rules.take k) = n at *
     have hw : IntKind.i64.wrap (n + szR r) = n + szR r := IntWalk.i64_in _ (by omega)
     have hpg := z06 r.guards
     have hpt := z0w r.out
     refine W_T ?_
     (repeat' (first | (simp (disch := omega) only [push_cast, ↓zz, seval, hPr, hPf, hge, hw, hpg, hpt]) | (with_reducible first | refine And.intro ?_ ?_ | (first | refine z01 ?_ ?_ | refine z00 ?_ ?_) <;> intro hc <;> (try simp only [push_cast] at hc)) | ((with_reducible first | refine eK hS ?_ | refine eQ hS ?_ | refine eG hS ?_)) | ((with_reducible first | refine cK hS ?_ | refine cQ hS ?_ | refine cG hS ?_); (simp (disch := omega) only [push_cast, ↓zz, seval, hPr, hPf, hge, hw, hpg, hpt]); (fail_if_success (with_reducible change False))) | omega | with_reducible intro _))
     all_goals
       refine ⟨k + 1, ?_⟩
       (repeat' (first | (simp (disch := omega) only [push_cast, ↓zz, seval, hst]) | (with_reducible first | refine And.intro ?_ ?_ | (first | refine z01 ?_ ?_ | refine z00 ?_ ?_) <;> intro hc <;> (try simp only [push_cast] at hc)) | omega | with_reducible intro _))
   · have hkt : d.rules.take k = d.rules := List.take_of_length_le hkl
     rw [hkt] at hb1 hb2 ⊢
     generalize sumT szR d.rules = n at *
     refine W_T ?_
     (repeat' (first | (simp (disch := omega) only [push_cast, ↓zz, seval, hPr, hPf]) | (with_reducible first | refine And.intro ?_ ?_ | (first | refine z01 ?_ ?_ | refine z00 ?_ ?_) <;> intro hc <;> (try simp only [push_cast] at hc)) | omega | with_reducible intro _))
     refine z0i (z0j (fun (k : Nat) => k ≤ d.finals.length) (fun k => d.finals.length - k)
       (fun k => [(1, .ptr 0 1 0 0), (3, .int .i64 (n + sumT szF (d.finals.take k))), (5, .int .i64 k)]) (fun k => [⟨6, 1, true, [z1y d]⟩]) (fun env _ => [z0r 1 (env 1)]) 0 (by simp) ?_ ?_)
     · have e0 : sumT szF ([] : List z6z) = 0 := rfl
       (repeat' (first | (simp (disch := omega) only [push_cast, ↓zz, seval, hPr, hPf, e0, Int.add_zero]) | (with_reducible first | refine And.intro ?_ ?_ | (first | refine z01 ?_ ?_ | refine z00 ?_ ?_) <;> intro hc <;> (try simp only [push_cast] at hc)) | omega | with_reducible intro _))
     intro j hj
     have hb3 := z4k sF (d.finals.take j)
     have hb4 : ((d.finals.take j).length : Int) * 2000000 ≤ 80 * 2000000 := Int.mul_le_mul_of_nonneg_right (by simp; omega) (by omega)
     rcases Nat.lt_or_ge j d.finals.length with hjl | hjl
     · have hst := zj2 (f := szF) hjl
       have hx := sF (nth d.finals j)
       have hS := zh0 (nth d.finals j).guards (nth d.finals j).out
       have hsz : z5j (nth d.finals j).guards (nth d.finals j).out = szF (nth d.finals j) := rfl
       rw [hsz] at hS
       generalize hge : nth d.finals j = f at *
       generalize sumT szF (d.finals.take j) = m at *
       have hw : IntKind.i64.wrap (n + m + szF f) = n + m + szF f := IntWalk.i64_in _ (by omega)
       have hpg := z06 f.guards
       have hpt := z0w f.out
       refine W_T ?_
       (repeat' (first | (simp (disch := omega) only [push_cast, ↓zz, seval, hPr, hPf, hge, hw, hpg, hpt]) | (with_reducible first | refine And.intro ?_ ?_ | (first | refine z01 ?_ ?_ | refine z00 ?_ ?_) <;> intro hc <;> (try simp only [push_cast] at hc)) | ((with_reducible first | refine eK hS ?_ | refine eQ hS ?_ | refine eG hS ?_)) | ((with_reducible first | refine cK hS ?_ | refine cQ hS ?_ | refine cG hS ?_); (simp (disch := omega) only [push_cast, ↓zz, seval, hPr, hPf, hge, hw, hpg, hpt]); (fail_if_success (with_reducible change False))) | omega | with_reducible intro _))
       all_goals
         refine ⟨j + 1, ?_⟩
         (repeat' (first | (simp (disch := omega) only [push_cast, ↓zz, seval, hst]) | (with_reducible first | refine And.intro ?_ ?_ | (first | refine z01 ?_ ?_ | refine z00 ?_ ?_) <;> intro hc <;> (try simp only [push_cast] at hc)) | omega | with_reducible intro _))
       all_goals first
         | omega
         | trace_state
     · have hjt : d.finals.take j = d.finals := List.take_of_length_le hjl
       rw [hjt]
       refine W_T ?_
       (repeat' (first | (simp (disch := omega) only [push_cast, ↓zz, seval, hPr, hPf]) | (with_reducible first | refine And.intro ?_ ?_ | (first | refine z01 ?_ ?_ | refine z00 ?_ ?_) <;> intro hc <;> (try simp only [push_cast] at hc)) | omega | with_reducible intro _))
 · rw [z6y, decide_eq_false hb, Bool.false_and]
   (repeat' (first | (simp (disch := omega) only [push_cast, ↓zz, seval]) | (with_reducible first | refine And.intro ?_ ?_ | (first | refine z01 ?_ ?_ | refine z00 ?_ ?_) <;> intro hc <;> (try simp only [push_cast] at hc)) | omega | with_reducible intro _))
   all_goals trace_state
theorem zh1 {gs : List (List Span)} {out : List Term} (h : z5j gs out ≤ 1500) : ∀ t ∈ out, t.parts.length < 4000 := by
 unfold z5j at h
 split at h
 · omega
 · intro t ht
   have h1 := z6u (fun t => (zqc t).1) ht
   have h2 := (z4k zqb gs).1
   have h3 : szT t = 1 + min (t.parts.length : Int) 4000 := rfl
   omega
theorem zxk {d : Desc} (h : z6y d = true) : z6s d := by
 simp only [z6y, Bool.and_eq_true, decide_eq_true_eq] at h
 have sR : ∀ r, 0 ≤ szR r ∧ szR r ≤ 2000000 := fun r => z7n _ _
 have sF : ∀ f, 0 ≤ szF f ∧ szF f ≤ 2000000 := fun r => z7n _ _
 have a1 := (z4k sR d.rules).1
 have a2 := (z4k sF d.finals).1
 refine ⟨fun r hr t ht => ?_, fun f hf t ht => ?_⟩
 · have h1 := z6u (fun r => (sR r).1) hr
   have h2 : szR r = z5j r.guards r.out := rfl
   have := zh1 (gs := r.guards) (out := r.out) (by omega) t ht
   omega
 · have h1 := z6u (fun r => (sF r).1) hf
   have h2 : szF f = z5j f.guards f.out := rfl
   have := zh1 (gs := f.guards) (out := f.out) (by omega) t ht
   omega
theorem y6o {s : Int} : 0 < ((domL s).length : Int) ↔ (s = 1 ∨ s = 2) := by
 unfold domL
 split
 · simp [*]
 · split
   · simp [*]
   · simp [*]
theorem y1n {d : Desc} : zed d = true ↔ (d.in_ = 1 ∨ d.in_ = 2) ∧ (d.out = 1 ∨ d.out = 2) ∧ (1 ≤ d.states ∧ d.states ≤ 1024) ∧ (0 ≤ d.start ∧ d.start < d.states) ∧ d.rules.length ≤ 4096 ∧ d.finals.length ≤ 4096 := by
 simp only [zed, z5o, Bool.and_eq_true, decide_eq_true_eq, y6o]
 omega
def zew (d : Desc) (r : Rule) : Prop := (0 ≤ r.from_ ∧ r.from_ < d.states) ∧ (0 ≤ r.to_ ∧ r.to_ < d.states) ∧ ((r.guards.length : Int) = 0 ∧ r.eat = 0 ∨ 1 ≤ r.eat ∧ r.eat ≤ r.guards.length)
theorem y1o {d : Desc} {r : Rule} : z4j d r = true ↔ zew d r ∧ z2l d.in_ r.guards = true ∧ z2q d r.out r.guards = true := by
 simp only [z4j, z5o, eatB, zew, Bool.and_eq_true, Bool.not_eq_true', decide_eq_true_eq, decide_eq_false_iff_not]
 constructor
 · rintro ⟨h1, h2, h3, h4, h5⟩
   exact ⟨⟨h1, h2, by omega⟩, h3, h5⟩
 · rintro ⟨⟨h1, h2, h4⟩, h3, h5⟩
   exact ⟨h1, h2, h3, by omega, h5⟩
theorem zxl {d : Desc} {f : z6z} : z38 d f = true ↔ (0 ≤ f.from_ ∧ f.from_ < d.states) ∧ z2l d.in_ f.guards = true ∧ z2q d f.out f.guards = true := by
 simp only [z38, z5o, Bool.and_eq_true, decide_eq_true_eq]
structure z5h (d : Desc) : Prop where
 fin : z6s d
 rg : ∀ r ∈ d.rules, r.guards.length ≤ 9223372036854775807
 fg : ∀ f ∈ d.finals, f.guards.length ≤ 9223372036854775807
structure Hold (p : Prop) : Prop where
 get : p
theorem share {P Q : Prop} (main : Hold P → Q) (k : Hold P) : Q := main k
set_option maxHeartbeats 4000000 in
set_option maxRecDepth 8000 in
theorem zex (d : Desc) (hs : z5h d) : PC Try.prog 13 [z1y d] (.tup [.int .i64 (z3m d).1, .int .i64 (z3m d).2]) := by
 have hPr := z1h d.rules
 have hPf := z1v d.finals
 have hhi := @y1n d
 refine z0t zhp ?_
 unfold z9i
 cases hh : zed d with
 | false =>
   rw [z3m, if_pos hh]
   have hno : ¬ ((d.in_ = 1 ∨ d.in_ = 2) ∧ (d.out = 1 ∨ d.out = 2) ∧ (1 ≤ d.states ∧ d.states ≤ 1024) ∧ (0 ≤ d.start ∧ d.start < d.states) ∧ d.rules.length ≤ 4096 ∧ d.finals.length ≤ 4096) := fun h => by rw [hhi.2 h] at hh; cases hh
   clear hhi
   (repeat' (first | (simp (disch := omega) only [push_cast, ↓zz, seval]) | (with_reducible first | refine And.intro ?_ ?_ | (first | refine z01 ?_ ?_ | refine z00 ?_ ?_) <;> intro hc <;> (try simp only [push_cast] at hc)) | omega | with_reducible intro _))
   all_goals first
     | (exfalso; omega)
     | ((repeat' (first | (simp (disch := omega) only [push_cast, ↓zz, seval, z1f]) | omega | (with_reducible refine And.intro ?_ ?_))); done)
     | trace_state
 | true =>
 obtain ⟨i1, i2, i3, i4, i5, i6⟩ := hhi.1 hh
 clear hhi
 have hW : z3m d = match z4n (z4j d) d.rules 0 with
   | some i => (2, (i : Int))
   | none => match z4n (z38 d) d.finals 0 with
     | some i => (3, (i : Int))
     | none => if (@decide (cycP d.rules d.states.toNat) (Classical.propDecidable _)) = true then (4, 0) else (0, 0) := by
   rw [z3m, if_neg (by simp [hh])]
   cases z4n (z4j d) d.rules 0 with
   | some i => rfl
   | none =>
     cases z4n (z38 d) d.finals 0 with
     | some i => rfl
     | none =>
       by_cases hc : cycP d.rules d.states.toNat
       · simp only [if_pos hc, @decide_eq_true _ (Classical.propDecidable _) hc, if_true]
       · simp only [if_neg hc, @decide_eq_false _ (Classical.propDecidable _) hc, Bool.false_eq_true, if_false]
 apply share
 · intro key
   (repeat' (first | (simp (disch := omega) only [push_cast, ↓zz, seval]) | (with_reducible first | refine And.intro ?_ ?_ | (first | refine z01 ?_ ?_ | refine z00 ?_ ?_) <;> intro hc <;> (try simp only [push_cast] at hc)) | omega | with_reducible intro _))
   all_goals first
     | (exfalso; omega)
     | skip
   all_goals
     refine z0i (z0j (fun (k : Nat) => k ≤ d.rules.length ∧ z4n (z4j d) d.rules 0 = z4n (z4j d) (d.rules.drop k) k) (fun k => d.rules.length - k)
       (fun k => [(1, .ptr 0 1 0 0), (4, .int .i64 k)]) (fun k => [⟨6, 1, true, [z1y d]⟩]) (fun env _ => [z0r 1 (env 1)]) 0 ⟨by simp, rfl⟩ ?_ ?_)
     · (repeat' (first | (simp (disch := omega) only [push_cast, ↓zz, seval, hPr, hPf]) | (with_reducible first | refine And.intro ?_ ?_ | (first | refine z01 ?_ ?_ | refine z00 ?_ ?_) <;> intro hc <;> (try simp only [push_cast] at hc)) | omega | with_reducible intro _))
     exact key.get
 refine ⟨?_⟩
 rintro k ⟨k1, k2⟩
 rcases Nat.lt_or_ge k d.rules.length with hk | hk
 · have hrm := z0k hk
   have hrf := hs.fin.1 _ hrm
   have hrg := hs.rg _ hrm
   rw [zcb hk] at k2
   have hiff := @y1o d (nth d.rules k)
   have hG := zc2 d.in_ (nth d.rules k).guards hrg
   generalize hre : nth d.rules k = r at *
   have hpg := z06 r.guards
   have hpt := z0w r.out
   have hbad : ¬ zew d r → z3m d = (2, (k : Int)) := fun hA => by
     have hb : z4j d r = false := by
       cases h : z4j d r with
       | false => rfl
       | true => exact absurd (hiff.1 h).1 hA
     rw [hb] at k2
     simp only [Bool.false_eq_true, if_false] at k2
     rw [hW, k2]
   refine W_T ?_
   by_cases f1 : r.from_ < 0
   · rw [hbad fun hA => by unfold zew at hA; omega]
     have g1 := eq_true f1
     clear hiff hbad hW
     (repeat' (first | (simp (disch := omega) only [push_cast, ↓zz, seval, hPr, hPf, hre, hpg, hpt, g1]) | (with_reducible first | refine And.intro ?_ ?_ | (first | refine z01 ?_ ?_ | refine z00 ?_ ?_) <;> intro hc <;> (try simp only [push_cast] at hc)) | omega | with_reducible intro _))
   by_cases f2 : d.states ≤ r.from_
   · rw [hbad fun hA => by unfold zew at hA; omega]
     have g1 := eq_false f1
     have g2 := eq_true f2
     clear hiff hbad hW
     (repeat' (first | (simp (disch := omega) only [push_cast, ↓zz, seval, hPr, hPf, hre, hpg, hpt, g1, g2]) | (with_reducible first | refine And.intro ?_ ?_ | (first | refine z01 ?_ ?_ | refine z00 ?_ ?_) <;> intro hc <;> (try simp only [push_cast] at hc)) | omega | with_reducible intro _))
   by_cases f3 : r.to_ < 0
   · rw [hbad fun hA => by unfold zew at hA; omega]
     have g1 := eq_false f1
     have g2 := eq_false f2
     have g3 := eq_true f3
     clear hiff hbad hW
     (repeat' (first | (simp (disch := omega) only [push_cast, ↓zz, seval, hPr, hPf, hre, hpg, hpt, g1, g2, g3]) | (with_reducible first | refine And.intro ?_ ?_ | (first | refine z01 ?_ ?_ | refine z00 ?_ ?_) <;> intro hc <;> (try simp only [push_cast] at hc)) | omega | with_reducible intro _))
   by_cases f4 : d.states ≤ r.to_
   · rw [hbad fun hA => by unfold zew at hA; omega]
     have g1 := eq_false f1
     have g2 := eq_false f2
     have g3 := eq_false f3
     have g4 := eq_true f4
     clear hiff hbad hW
     (repeat' (first | (simp (disch := omega) only [push_cast, ↓zz, seval, hPr, hPf, hre, hpg, hpt, g1, g2, g3, g4]) | (with_reducible first | refine And.intro ?_ ?_ | (first | refine z01 ?_ ?_ | refine z00 ?_ ?_) <;> intro hc <;> (try simp only [push_cast] at hc)) | omega | with_reducible intro _))
   have g1 := eq_false f1
   have g2 := eq_false f2
   have g3 := eq_false f3
   have g4 := eq_false f4
   have hE : (((r.guards.length : Int) = 0) = True ∧ (r.eat = 0) = True ∧ (1 ≤ r.eat) = False) ∨ (((r.guards.length : Int) = 0) = False ∧ (1 ≤ r.eat) = True ∧ (r.eat ≤ (r.guards.length : Int)) = True) ∨
       ¬ zew d r ∧ (((r.guards.length : Int) = 0) = True ∧ (r.eat = 0) = False ∧ (1 ≤ r.eat) = False ∨ ((r.guards.length : Int) = 0) = True ∧ (r.eat = 0) = False ∧ (1 ≤ r.eat) = True ∧ (r.eat ≤ (r.guards.length : Int)) = False ∨
         ((r.guards.length : Int) = 0) = False ∧ (1 ≤ r.eat) = False ∨ ((r.guards.length : Int) = 0) = False ∧ (1 ≤ r.eat) = True ∧ (r.eat ≤ (r.guards.length : Int)) = False) := by
     simp only [eq_iff_iff, iff_true, iff_false, zew]
     omega
   have hgood : ((((r.guards.length : Int) = 0) = True ∧ (r.eat = 0) = True ∧ (1 ≤ r.eat) = False) ∨ (((r.guards.length : Int) = 0) = False ∧ (1 ≤ r.eat) = True ∧ (r.eat ≤ (r.guards.length : Int)) = True)) → zew d r := by
     simp only [eq_iff_iff, iff_true, iff_false, zew]
     omega
   rcases hE with hE | hE | ⟨hA, hE⟩
   · have hA := hgood (.inl hE)
     obtain ⟨e1, e2, e3⟩ := hE
     clear hbad hgood
     cases hg : z2l d.in_ r.guards with
     | false =>
       rw [hg] at hG
       have hb : z4j d r = false := by
         cases h : z4j d r with
         | false => rfl
         | true => have := (hiff.1 h).2.1; rw [hg] at this; cases this
       rw [hb] at k2
       simp only [Bool.false_eq_true, if_false] at k2
       rw [hW, k2]
       clear hiff hW hA
       (repeat' (first | (simp (disch := omega) only [push_cast, ↓zz, seval, hPr, hPf, hre, hpg, hpt, g1, g2, g3, g4, e1, e2, e3]) | (with_reducible first | refine And.intro ?_ ?_ | (first | refine z01 ?_ ?_ | refine z00 ?_ ?_) <;> intro hc <;> (try simp only [push_cast] at hc)) | ((with_reducible first | refine eK hG ?_ | refine eQ hG ?_ | refine eG hG ?_)) | ((with_reducible first | refine cK hG ?_ | refine cQ hG ?_ | refine cG hG ?_); (simp (disch := omega) only [push_cast, ↓zz, seval, hPr, hPf, hre, hpg, hpt, g1, g2, g3, g4, e1, e2, e3]); (fail_if_success (with_reducible change False))) | omega | with_reducible intro _))
     | true =>
       rw [hg] at hG
       have hWr := z7m d r.out r.guards hrf (zeu hg)
       have hb : z4j d r = z2q d r.out r.guards := by
         rw [Bool.eq_iff_iff, hiff]
         exact ⟨fun h => h.2.2, fun h => ⟨hA, hg, h⟩⟩
       rw [hb] at k2
       cases hw : z2q d r.out r.guards with
       | false =>
         rw [hw] at hWr k2
         simp only [Bool.false_eq_true, if_false] at k2
         rw [hW, k2]
         clear hiff hW hA
         (repeat' (first | (simp (disch := omega) only [push_cast, ↓zz, seval, hPr, hPf, hre, hpg, hpt, g1, g2, g3, g4, e1, e2, e3]) | (with_reducible first | refine And.intro ?_ ?_ | (first | refine z01 ?_ ?_ | refine z00 ?_ ?_) <;> intro hc <;> (try simp only [push_cast] at hc)) | ((with_reducible first | refine eK hG ?_ | refine eQ hG ?_ | refine eG hG ?_)) | ((with_reducible first | refine eK hWr ?_ | refine eQ hWr ?_ | refine eG hWr ?_)) | ((with_reducible first | refine cK hG ?_ | refine cQ hG ?_ | refine cG hG ?_); (simp (disch := omega) only [push_cast, ↓zz, seval, hPr, hPf, hre, hpg, hpt, g1, g2, g3, g4, e1, e2, e3]); (fail_if_success (with_reducible change False))) | ((with_reducible first | refine cK hWr ?_ | refine cQ hWr ?_ | refine cG hWr ?_); (simp (disch := omega) only [push_cast, ↓zz, seval, hPr, hPf, hre, hpg, hpt, g1, g2, g3, g4, e1, e2, e3]); (fail_if_success (with_reducible change False))) | omega | with_reducible intro _))
       | true =>
         rw [hw] at hWr k2
         simp only [if_true] at k2
         clear hiff hA
         (repeat' (first | (simp (disch := omega) only [push_cast, ↓zz, seval, hPr, hPf, hre, hpg, hpt, g1, g2, g3, g4, e1, e2, e3]) | (with_reducible first | refine And.intro ?_ ?_ | (first | refine z01 ?_ ?_ | refine z00 ?_ ?_) <;> intro hc <;> (try simp only [push_cast] at hc)) | ((with_reducible first | refine eK hG ?_ | refine eQ hG ?_ | refine eG hG ?_)) | ((with_reducible first | refine eK hWr ?_ | refine eQ hWr ?_ | refine eG hWr ?_)) | ((with_reducible first | refine cK hG ?_ | refine cQ hG ?_ | refine cG hG ?_); (simp (disch := omega) only [push_cast, ↓zz, seval, hPr, hPf, hre, hpg, hpt, g1, g2, g3, g4, e1, e2, e3]); (fail_if_success (with_reducible change False))) | ((with_reducible first | refine cK hWr ?_ | refine cQ hWr ?_ | refine cG hWr ?_); (simp (disch := omega) only [push_cast, ↓zz, seval, hPr, hPf, hre, hpg, hpt, g1, g2, g3, g4, e1, e2, e3]); (fail_if_success (with_reducible change False))) | omega | with_reducible intro _))
         all_goals first
           | exact ⟨k + 1, by push_cast, ⟨by omega, k2⟩, by omega⟩
           | trace_state
   · have hA := hgood (.inr hE)
     obtain ⟨e1, e2, e3⟩ := hE
     clear hbad hgood
     cases hg : z2l d.in_ r.guards with
     | false =>
       rw [hg] at hG
       have hb : z4j d r = false := by
         cases h : z4j d r with
         | false => rfl
         | true => have := (hiff.1 h).2.1; rw [hg] at this; cases this
       rw [hb] at k2
       simp only [Bool.false_eq_true, if_false] at k2
       rw [hW, k2]
       clear hiff hW hA
       (repeat' (first | (simp (disch := omega) only [push_cast, ↓zz, seval, hPr, hPf, hre, hpg, hpt, g1, g2, g3, g4, e1, e2, e3]) | (with_reducible first | refine And.intro ?_ ?_ | (first | refine z01 ?_ ?_ | refine z00 ?_ ?_) <;> intro hc <;> (try simp only [push_cast] at hc)) | ((with_reducible first | refine eK hG ?_ | refine eQ hG ?_ | refine eG hG ?_)) | ((with_reducible first | refine cK hG ?_ | refine cQ hG ?_ | refine cG hG ?_); (simp (disch := omega) only [push_cast, ↓zz, seval, hPr, hPf, hre, hpg, hpt, g1, g2, g3, g4, e1, e2, e3]); (fail_if_success (with_reducible change False))) | omega | with_reducible intro _))
     | true =>
       rw [hg] at hG
       have hWr := z7m d r.out r.guards hrf (zeu hg)
       have hb : z4j d r = z2q d r.out r.guards := by
         rw [Bool.eq_iff_iff, hiff]
         exact ⟨fun h => h.2.2, fun h => ⟨hA, hg, h⟩⟩
       rw [hb] at k2
       cases hw : z2q d r.out r.guards with
       | false =>
         rw [hw] at hWr k2
         simp only [Bool.false_eq_true, if_false] at k2
         rw [hW, k2]
         clear hiff hW hA
         (repeat' (first | (simp (disch := omega) only [push_cast, ↓zz, seval, hPr, hPf, hre, hpg, hpt, g1, g2, g3, g4, e1, e2, e3]) | (with_reducible first | refine And.intro ?_ ?_ | (first | refine z01 ?_ ?_ | refine z00 ?_ ?_) <;> intro hc <;> (try simp only [push_cast] at hc)) | ((with_reducible first | refine eK hG ?_ | refine eQ hG ?_ | refine eG hG ?_)) | ((with_reducible first | refine eK hWr ?_ | refine eQ hWr ?_ | refine eG hWr ?_)) | ((with_reducible first | refine cK hG ?_ | refine cQ hG ?_ | refine cG hG ?_); (simp (disch := omega) only [push_cast, ↓zz, seval, hPr, hPf, hre, hpg, hpt, g1, g2, g3, g4, e1, e2, e3]); (fail_if_success (with_reducible change False))) | ((with_reducible first | refine cK hWr ?_ | refine cQ hWr ?_ | refine cG hWr ?_); (simp (disch := omega) only [push_cast, ↓zz, seval, hPr, hPf, hre, hpg, hpt, g1, g2, g3, g4, e1, e2, e3]); (fail_if_success (with_reducible change False))) | omega | with_reducible intro _))
       | true =>
         rw [hw] at hWr k2
         simp only [if_true] at k2
         clear hiff hA
         (repeat' (first | (simp (disch := omega) only [push_cast, ↓zz, seval, hPr, hPf, hre, hpg, hpt, g1, g2, g3, g4, e1, e2, e3]) | (with_reducible first | refine And.intro ?_ ?_ | (first | refine z01 ?_ ?_ | refine z00 ?_ ?_) <;> intro hc <;> (try simp only [push_cast] at hc)) | ((with_reducible first | refine eK hG ?_ | refine eQ hG ?_ | refine eG hG ?_)) | ((with_reducible first | refine eK hWr ?_ | refine eQ hWr ?_ | refine eG hWr ?_)) | ((with_reducible first | refine cK hG ?_ | refine cQ hG ?_ | refine cG hG ?_); (simp (disch := omega) only [push_cast, ↓zz, seval, hPr, hPf, hre, hpg, hpt, g1, g2, g3, g4, e1, e2, e3]); (fail_if_success (with_reducible change False))) | ((with_reducible first | refine cK hWr ?_ | refine cQ hWr ?_ | refine cG hWr ?_); (simp (disch := omega) only [push_cast, ↓zz, seval, hPr, hPf, hre, hpg, hpt, g1, g2, g3, g4, e1, e2, e3]); (fail_if_success (with_reducible change False))) | omega | with_reducible intro _))
         all_goals first
           | exact ⟨k + 1, by push_cast, ⟨by omega, k2⟩, by omega⟩
           | trace_state
   · rw [hbad hA]
     clear hiff hW hA hbad hgood
     rcases hE with ⟨e1, e2, e3⟩ | ⟨e1, e2, e3, e4⟩ | ⟨e1, e2⟩ | ⟨e1, e2, e3⟩
     · (repeat' (first | (simp (disch := omega) only [push_cast, ↓zz, seval, hPr, hPf, hre, hpg, hpt, g1, g2, g3, g4, e1, e2, e3]) | (with_reducible first | refine And.intro ?_ ?_ | (first | refine z01 ?_ ?_ | refine z00 ?_ ?_) <;> intro hc <;> (try simp only [push_cast] at hc)) | omega | with_reducible intro _))
     · (repeat' (first | (simp (disch := omega) only [push_cast, ↓zz, seval, hPr, hPf, hre, hpg, hpt, g1, g2, g3, g4, e1, e2, e3, e4]) | (with_reducible first | refine And.intro ?_ ?_ | (first | refine z01 ?_ ?_ | refine z00 ?_ ?_) <;> intro hc <;> (try simp only [push_cast] at hc)) | omega | with_reducible intro _))
     · (repeat' (first | (simp (disch := omega) only [push_cast, ↓zz, seval, hPr, hPf, hre, hpg, hpt, g1, g2, g3, g4, e1, e2]) | (with_reducible first | refine And.intro ?_ ?_ | (first | refine z01 ?_ ?_ | refine z00 ?_ ?_) <;> intro hc <;> (try simp only [push_cast] at hc)) | omega | with_reducible intro _))
     · (repeat' (first | (simp (disch := omega) only [push_cast, ↓zz, seval, hPr, hPf, hre, hpg, hpt, g1, g2, g3, g4, e1, e2, e3]) | (with_reducible first | refine And.intro ?_ ?_ | (first | refine z01 ?_ ?_ | refine z00 ?_ ?_) <;> intro hc <;> (try simp only [push_cast] at hc)) | omega | with_reducible intro _))
 · rw [List.drop_of_length_le hk, z4n] at k2
   have hall := z6d k2
   have hC := zns d ⟨i3, i5, fun r hr => ziw (hall r hr)⟩
   have hcs := y0e (l := d.rules) (n := d.states.toNat) fun r hr => by
     have := ziw (hall r hr)
     omega
   rw [k2] at hW
   simp only at hW
   refine W_T ?_
   (repeat' (first | (simp (disch := omega) only [push_cast, ↓zz, seval, hPr, hPf]) | (with_reducible first | refine And.intro ?_ ?_ | (first | refine z01 ?_ ?_ | refine z00 ?_ ?_) <;> intro hc <;> (try simp only [push_cast] at hc)) | omega | with_reducible intro _))
   refine z0i (z0j (fun (k : Nat) => k ≤ d.finals.length ∧ z4n (z38 d) d.finals 0 = z4n (z38 d) (d.finals.drop k) k) (fun k => d.finals.length - k)
     (fun k => [(1, .ptr 0 1 0 0), (8, .int .i64 k)]) (fun k => [⟨6, 1, true, [z1y d]⟩]) (fun env _ => [z0r 1 (env 1)]) 0 ⟨by simp, rfl⟩ ?_ ?_)
   · (repeat' (first | (simp (disch := omega) only [push_cast, ↓zz, seval, hPr, hPf]) | (with_reducible first | refine And.intro ?_ ?_ | (first | refine z01 ?_ ?_ | refine z00 ?_ ?_) <;> intro hc <;> (try simp only [push_cast] at hc)) | omega | with_reducible intro _))
   rintro j ⟨j1, j2⟩
   rcases Nat.lt_or_ge j d.finals.length with hj | hj
   · have hfm := z0k hj
     have hff := hs.fin.2 _ hfm
     have hfg := hs.fg _ hfm
     rw [zcb hj] at j2
     have hiff := @zxl d (nth d.finals j)
     have hG := zc2 d.in_ (nth d.finals j).guards hfg
     generalize hfe : nth d.finals j = f at *
     have hpg := z06 f.guards
     have hpt := z0w f.out
     have hbad : z38 d f = false → z3m d = (3, (j : Int)) := fun hb => by
       rw [hb] at j2
       simp only [Bool.false_eq_true, if_false] at j2
       rw [hW, j2]
     have hno : ¬ (0 ≤ f.from_ ∧ f.from_ < d.states) → z38 d f = false := fun hA => by
       cases h : z38 d f with
       | false => rfl
       | true => exact absurd (hiff.1 h).1 hA
     refine W_T ?_
     by_cases f1 : f.from_ < 0
     · rw [hbad (hno (by omega))]
       have g1 := eq_true f1
       clear hiff hbad hW hno
       (repeat' (first | (simp (disch := omega) only [push_cast, ↓zz, seval, hPr, hPf, hfe, hpg, hpt, g1]) | (with_reducible first | refine And.intro ?_ ?_ | (first | refine z01 ?_ ?_ | refine z00 ?_ ?_) <;> intro hc <;> (try simp only [push_cast] at hc)) | omega | with_reducible intro _))
     by_cases f2 : d.states ≤ f.from_
     · rw [hbad (hno (by omega))]
       have g1 := eq_false f1
       have g2 := eq_true f2
       clear hiff hbad hW hno
       (repeat' (first | (simp (disch := omega) only [push_cast, ↓zz, seval, hPr, hPf, hfe, hpg, hpt, g1, g2]) | (with_reducible first | refine And.intro ?_ ?_ | (first | refine z01 ?_ ?_ | refine z00 ?_ ?_) <;> intro hc <;> (try simp only [push_cast] at hc)) | omega | with_reducible intro _))
     have g1 := eq_false f1
     have g2 := eq_false f2
     cases hg : z2l d.in_ f.guards with
     | false =>
       rw [hg] at hG
       have hb : z38 d f = false := by
         cases h : z38 d f with
         | false => rfl
         | true => have := (hiff.1 h).2.1; rw [hg] at this; cases this
       rw [hbad hb]
       clear hiff hbad hW hno
       (repeat' (first | (simp (disch := omega) only [push_cast, ↓zz, seval, hPr, hPf, hfe, hpg, hpt, g1, g2]) | (with_reducible first | refine And.intro ?_ ?_ | (first | refine z01 ?_ ?_ | refine z00 ?_ ?_) <;> intro hc <;> (try simp only [push_cast] at hc)) | ((with_reducible first | refine eK hG ?_ | refine eQ hG ?_ | refine eG hG ?_)) | ((with_reducible first | refine cK hG ?_ | refine cQ hG ?_ | refine cG hG ?_); (simp (disch := omega) only [push_cast, ↓zz, seval, hPr, hPf, hfe, hpg, hpt, g1, g2]); (fail_if_success (with_reducible change False))) | omega | with_reducible intro _))
     | true =>
       rw [hg] at hG
       have hWr := z7m d f.out f.guards hff (zeu hg)
       have hb : z38 d f = z2q d f.out f.guards := by
         rw [Bool.eq_iff_iff, hiff]
         exact ⟨fun h => h.2.2, fun h => ⟨by omega, hg, h⟩⟩
       rw [hb] at j2 hbad
       cases hw : z2q d f.out f.guards with
       | false =>
         rw [hw] at hWr
         rw [hbad hw]
         clear hiff hbad hW hno
         (repeat' (first | (simp (disch := omega) only [push_cast, ↓zz, seval, hPr, hPf, hfe, hpg, hpt, g1, g2]) | (with_reducible first | refine And.intro ?_ ?_ | (first | refine z01 ?_ ?_ | refine z00 ?_ ?_) <;> intro hc <;> (try simp only [push_cast] at hc)) | ((with_reducible first | refine eK hG ?_ | refine eQ hG ?_ | refine eG hG ?_)) | ((with_reducible first | refine eK hWr ?_ | refine eQ hWr ?_ | refine eG hWr ?_)) | ((with_reducible first | refine cK hG ?_ | refine cQ hG ?_ | refine cG hG ?_); (simp (disch := omega) only [push_cast, ↓zz, seval, hPr, hPf, hfe, hpg, hpt, g1, g2]); (fail_if_success (with_reducible change False))) | ((with_reducible first | refine cK hWr ?_ | refine cQ hWr ?_ | refine cG hWr ?_); (simp (disch := omega) only [push_cast, ↓zz, seval, hPr, hPf, hfe, hpg, hpt, g1, g2]); (fail_if_success (with_reducible change False))) | omega | with_reducible intro _))
       | true =>
         rw [hw] at hWr j2
         simp only [if_true] at j2
         clear hiff hbad hno
         (repeat' (first | (simp (disch := omega) only [push_cast, ↓zz, seval, hPr, hPf, hfe, hpg, hpt, g1, g2]) | (with_reducible first | refine And.intro ?_ ?_ | (first | refine z01 ?_ ?_ | refine z00 ?_ ?_) <;> intro hc <;> (try simp only [push_cast] at hc)) | ((with_reducible first | refine eK hG ?_ | refine eQ hG ?_ | refine eG hG ?_)) | ((with_reducible first | refine eK hWr ?_ | refine eQ hWr ?_ | refine eG hWr ?_)) | ((with_reducible first | refine cK hG ?_ | refine cQ hG ?_ | refine cG hG ?_); (simp (disch := omega) only [push_cast, ↓zz, seval, hPr, hPf, hfe, hpg, hpt, g1, g2]); (fail_if_success (with_reducible change False))) | ((with_reducible first | refine cK hWr ?_ | refine cQ hWr ?_ | refine cG hWr ?_); (simp (disch := omega) only [push_cast, ↓zz, seval, hPr, hPf, hfe, hpg, hpt, g1, g2]); (fail_if_success (with_reducible change False))) | omega | with_reducible intro _))
         all_goals first
           | exact ⟨j + 1, by push_cast, ⟨by omega, j2⟩, by omega⟩
           | trace_state
   · rw [List.drop_of_length_le hj, z4n] at j2
     rw [j2] at hW
     simp only at hW
     have hdc : @decide (cycP d.rules d.states.toNat) (Classical.propDecidable _) = cycR d.rules d.states.toNat := by
       rw [Bool.eq_iff_iff, hcs]
       exact @decide_eq_true_iff _ (Classical.propDecidable _)
     rw [hdc] at hW
     clear hcs hdc
     generalize cycR d.rules d.states.toNat = c at *
     refine W_T ?_
     rw [hW]
     cases c
     · (repeat' (first | (simp (disch := omega) only [push_cast, ↓zz, seval, hPr, hPf]) | (with_reducible first | refine And.intro ?_ ?_ | (first | refine z01 ?_ ?_ | refine z00 ?_ ?_) <;> intro hc <;> (try simp only [push_cast] at hc)) | ((with_reducible first | refine eK hC ?_ | refine eQ hC ?_ | refine eG hC ?_)) | ((with_reducible first | refine cK hC ?_ | refine cQ hC ?_ | refine cG hC ?_); (simp (disch := omega) only [push_cast, ↓zz, seval, hPr, hPf]); (fail_if_success (with_reducible change False))) | omega | with_reducible intro _))
     · (repeat' (first | (simp (disch := omega) only [push_cast, ↓zz, seval, hPr, hPf]) | (with_reducible first | refine And.intro ?_ ?_ | (first | refine z01 ?_ ?_ | refine z00 ?_ ?_) <;> intro hc <;> (try simp only [push_cast] at hc)) | ((with_reducible first | refine eK hC ?_ | refine eQ hC ?_ | refine eG hC ?_)) | ((with_reducible first | refine cK hC ?_ | refine cQ hC ?_ | refine cG hC ?_); (simp (disch := omega) only [push_cast, ↓zz, seval, hPr, hPf]); (fail_if_success (with_reducible change False))) | omega | with_reducible intro _))
       all_goals trace_state
theorem zey {gs : List (List Span)} {out : List Term} (h : z5j gs out ≤ 1500) : gs.length ≤ 100 := by
 unfold z5j at h
 split at h
 · omega
 · omega
theorem zez {d : Desc} (h : z6y d = true) : z5h d := by
 refine ⟨zxk h, ?_, ?_⟩
 all_goals
   simp only [z6y, Bool.and_eq_true, decide_eq_true_eq] at h
   have sR : ∀ r, 0 ≤ szR r ∧ szR r ≤ 2000000 := fun r => z7n _ _
   have sF : ∀ f, 0 ≤ szF f ∧ szF f ≤ 2000000 := fun r => z7n _ _
   have a1 := (z4k sR d.rules).1
   have a2 := (z4k sF d.finals).1
 · intro r hr
   have h1 := z6u (fun r => (sR r).1) hr
   have h2 : szR r = z5j r.guards r.out := rfl
   have := zey (gs := r.guards) (out := r.out) (by omega)
   omega
 · intro f hf
   have h1 := z6u (fun r => (sF r).1) hf
   have h2 : szF f = z5j f.guards f.out := rfl
   have := zey (gs := f.guards) (out := f.out) (by omega)
   omega
theorem zf8 (d : Desc) : PC Try.prog 3 [z1y d] (.bool true) := by
 have hA := zep
 have hS := zev d
 refine z0t z9e ?_
 unfold z5m
 cases hsm : z6y d with
 | false =>
   rw [hsm] at hS
   (repeat' (first | (simp (disch := omega) only [push_cast, ↓zz, seval]) | (with_reducible first | refine And.intro ?_ ?_ | (first | refine z01 ?_ ?_ | refine z00 ?_ ?_) <;> intro hc <;> (try simp only [push_cast] at hc)) | ((with_reducible first | refine eK hS ?_ | refine eQ hS ?_ | refine eG hS ?_)) | ((with_reducible first | refine eK hA ?_ | refine eQ hA ?_ | refine eG hA ?_)) | ((with_reducible first | refine cK hS ?_ | refine cQ hS ?_ | refine cG hS ?_); (simp (disch := omega) only [push_cast, ↓zz, seval]); (fail_if_success (with_reducible change False))) | ((with_reducible first | refine cK hA ?_ | refine cQ hA ?_ | refine cG hA ?_); (simp (disch := omega) only [push_cast, ↓zz, seval]); (fail_if_success (with_reducible change False))) | omega | with_reducible intro _))
 | true =>
   rw [hsm] at hS
   have hsh := zez hsm
   have h1 := zb0 d hsh.fin
   have h2 := zex d hsh
   have h3 := z87 d hsh.fin
   obtain ⟨k, a, c, e1, e2, hk⟩ : ∃ (k a c : Int), z3m d = (k, a) ∧ z5p d = c ∧ ((k = 0 ∧ c = 0) ∨ (k ≠ 0 ∧ c = 2)) := by
     refine ⟨(z3m d).1, (z3m d).2, z5p d, rfl, rfl, ?_⟩
     unfold z5p
     split
     · exact .inl ⟨by assumption, rfl⟩
     · exact .inr ⟨by assumption, rfl⟩
   rw [e1] at h1 h2
   rw [e2] at h3
   clear e1 e2 hsm
   simp only at h1 h2
   rcases hk with ⟨k1, c1⟩ | ⟨k1, c1⟩
   · subst c1
     have k2 := eq_true k1
     (repeat' (first | (simp (disch := omega) only [push_cast, ↓zz, seval, k2]) | (with_reducible first | refine And.intro ?_ ?_ | (first | refine z01 ?_ ?_ | refine z00 ?_ ?_) <;> intro hc <;> (try simp only [push_cast] at hc)) | ((with_reducible first | refine eK hS ?_ | refine eQ hS ?_ | refine eG hS ?_)) | ((with_reducible first | refine eK h1 ?_ | refine eQ h1 ?_ | refine eG h1 ?_)) | ((with_reducible first | refine eK h2 ?_ | refine eQ h2 ?_ | refine eG h2 ?_)) | ((with_reducible first | refine eK h3 ?_ | refine eQ h3 ?_ | refine eG h3 ?_)) | ((with_reducible first | refine eK hA ?_ | refine eQ hA ?_ | refine eG hA ?_)) | ((with_reducible first | refine cK hS ?_ | refine cQ hS ?_ | refine cG hS ?_); (simp (disch := omega) only [push_cast, ↓zz, seval, k2]); (fail_if_success (with_reducible change False))) | ((with_reducible first | refine cK h1 ?_ | refine cQ h1 ?_ | refine cG h1 ?_); (simp (disch := omega) only [push_cast, ↓zz, seval, k2]); (fail_if_success (with_reducible change False))) | ((with_reducible first | refine cK h2 ?_ | refine cQ h2 ?_ | refine cG h2 ?_); (simp (disch := omega) only [push_cast, ↓zz, seval, k2]); (fail_if_success (with_reducible change False))) | ((with_reducible first | refine cK h3 ?_ | refine cQ h3 ?_ | refine cG h3 ?_); (simp (disch := omega) only [push_cast, ↓zz, seval, k2]); (fail_if_success (with_reducible change False))) | ((with_reducible first | refine cK hA ?_ | refine cQ hA ?_ | refine cG hA ?_); (simp (disch := omega) only [push_cast, ↓zz, seval, k2]); (fail_if_success (with_reducible change False))) | omega | with_reducible intro _))
     all_goals (exfalso; revert hc; decide)
   · subst c1
     have k2 := eq_false k1
     (repeat' (first | (simp (disch := omega) only [push_cast, ↓zz, seval, k2]) | (with_reducible first | refine And.intro ?_ ?_ | (first | refine z01 ?_ ?_ | refine z00 ?_ ?_) <;> intro hc <;> (try simp only [push_cast] at hc)) | ((with_reducible first | refine eK hS ?_ | refine eQ hS ?_ | refine eG hS ?_)) | ((with_reducible first | refine eK h1 ?_ | refine eQ h1 ?_ | refine eG h1 ?_)) | ((with_reducible first | refine eK h2 ?_ | refine eQ h2 ?_ | refine eG h2 ?_)) | ((with_reducible first | refine eK h3 ?_ | refine eQ h3 ?_ | refine eG h3 ?_)) | ((with_reducible first | refine eK hA ?_ | refine eQ hA ?_ | refine eG hA ?_)) | ((with_reducible first | refine cK hS ?_ | refine cQ hS ?_ | refine cG hS ?_); (simp (disch := omega) only [push_cast, ↓zz, seval, k2]); (fail_if_success (with_reducible change False))) | ((with_reducible first | refine cK h1 ?_ | refine cQ h1 ?_ | refine cG h1 ?_); (simp (disch := omega) only [push_cast, ↓zz, seval, k2]); (fail_if_success (with_reducible change False))) | ((with_reducible first | refine cK h2 ?_ | refine cQ h2 ?_ | refine cG h2 ?_); (simp (disch := omega) only [push_cast, ↓zz, seval, k2]); (fail_if_success (with_reducible change False))) | ((with_reducible first | refine cK h3 ?_ | refine cQ h3 ?_ | refine cG h3 ?_); (simp (disch := omega) only [push_cast, ↓zz, seval, k2]); (fail_if_success (with_reducible change False))) | ((with_reducible first | refine cK hA ?_ | refine cQ hA ?_ | refine cG hA ?_); (simp (disch := omega) only [push_cast, ↓zz, seval, k2]); (fail_if_success (with_reducible change False))) | omega | with_reducible intro _))
     all_goals (exfalso; revert hc; decide)
theorem z6h {c : Desc} (hc : z5h c) : ∃ k a : Int, PC Try.prog 12 [z1y c] (.tup [.int .i64 k, .int .i64 a]) ∧ PC Try.prog 13 [z1y c] (.tup [.int .i64 k, .int .i64 a]) :=
 ⟨_, _, zb0 c hc.fin, zex c hc⟩
theorem zaf {d : Desc} (h : z5h d) {i : Nat} {r : Rule} {a b : Int} (h1 : ∀ t ∈ r.out, t.parts.length < 1000000000000) (h2 : r.guards.length ≤ 9223372036854775807) : z5h ⟨d.in_, d.out, a, b, d.rules.set i r, d.finals⟩ := by
 refine ⟨⟨fun r' hr => ?_, h.fin.2⟩, fun r' hr => ?_, h.fg⟩
 · rcases List.mem_or_eq_of_mem_set hr with hr | rfl
   · exact h.fin.1 r' hr
   · exact h1
 · rcases List.mem_or_eq_of_mem_set hr with hr | rfl
   · exact h.rg r' hr
   · exact h2
theorem zlt (l : List Rule) (i : Nat) (r : Rule) : (l.map z5w).set i (z5w r) = (l.set i r).map z5w := by rw [List.map_set]
theorem zsx (l : List Rule) (i : Nat) (r : Rule) : List.take l.length ((l.set i r).map z5w) = (l.set i r).map z5w := List.take_of_length_le (by simp)
theorem y1p {gs : List (List Span)} {out : List Term} (h : z5j gs out ≤ 1500) : out.length ≤ 200 := by
 unfold z5j at h
 split at h
 · omega
 · omega
theorem zsy {d : Desc} (h : z6y d = true) {r : Rule} (hr : r ∈ d.rules) : z5j r.guards r.out ≤ 1500 := by
 simp only [z6y, Bool.and_eq_true, decide_eq_true_eq] at h
 have sR : ∀ r, 0 ≤ szR r ∧ szR r ≤ 2000000 := fun r => z7n _ _
 have sF : ∀ f, 0 ≤ szF f ∧ szF f ≤ 2000000 := fun r => z7n _ _
 have a1 := (z4k sR d.rules).1
 have a2 := (z4k sF d.finals).1
 have h1 := z6u (fun r => (sR r).1) hr
 have h2 : szR r = z5j r.guards r.out := rfl
 omega
theorem zqd {d n : Nat} {H : z02} {xs : List AV} {i : Nat} {X Y : AV} (hn : xs.length ≤ n) (hp : z0l xs = true) (ho : z2j d H X) (hv : frzV d H X = Y) :
   ifB (z0l (List.take n (xs.set i X))) (okM d H (List.take n (xs.set i X))) ∧ (bif z0l (List.take n (xs.set i X)) then List.take n (xs.set i X) else frM d H (List.take n (xs.set i X))) = xs.set i Y := by
 rw [List.take_of_length_le (by simpa using hn)]
 have hf := z5d H d hp
 have e : frM d H (xs.set i X) = xs.set i Y := by
   show List.map (frzV d H) (xs.set i X) = _
   rw [List.map_set, hf.2, hv]
 refine ⟨.inr fun y hy => ?_, ?_⟩
 · rcases List.mem_or_eq_of_mem_set hy with hy | rfl
   · exact hf.1 y hy
   · exact ho
 · cases hpp : z0l (xs.set i X) with
   | false => exact e
   | true =>
     have h2 : frM d H (xs.set i X) = xs.set i X := (z5d H d hpp).2
     rw [← h2, e]; rfl
abbrev y1q (x : Int) : AV := .agg [.int .i64 0, .int .i64 0, .int .i64 21, .int .i64 0, .int .i64 x, .nilS]
abbrev zsz (rf rt : Int) (rg : List (List Span)) (re : Int) (ro : List Term) (x : Int) : AV := .agg [.int .i64 rf, .int .i64 rt, z0b rg, .int .i64 re, .lst 6 (ro.map z1m ++ [y1q x])]
theorem zxm {X Y : AV} (h : AV.le X Y) : ∀ (xs : List AV) (i : Nat), leL (xs.set i X) (xs.set i Y)
 | [], _ => z3p
 | x :: xs, 0 => z0f h (zy8 xs)
 | x :: xs, i + 1 => z0f (AV.le_refl x) (zxm h xs i)
theorem zxn {X Y : AV} (h : AV.le X Y) : ∀ xs : List AV, leL (xs ++ [X]) (xs ++ [Y])
 | [] => z0f h z3p
 | x :: xs => z0f (AV.le_refl x) (zxn h xs)
theorem zt0 (rf rt : Int) (rg : List (List Span)) (re : Int) (ro : List Term) (x : Int) : z0l (ro.map z1m ++ [y1q x]) = true := by
 rw [zk0, z0w]; rfl
theorem y1r (rf rt : Int) (rg : List (List Span)) (re : Int) (ro : List Term) (x : Int) : AV.le (zsz rf rt rg re ro x) (z5w ⟨rf, rt, rg, re, ro ++ [⟨0, 0, 21, 0, x, []⟩]⟩) := by
 refine AV.le_agg (z0f (AV.le_refl _) (z0f (AV.le_refl _) (z0f (AV.le_refl _) (z0f (AV.le_refl _) (z0f (AV.le_lst (by simp) (z0w _) ?_) z3p)))))
 rw [List.map_append]
 exact zxn (AV.le_agg (z0f (AV.le_refl _) (z0f (AV.le_refl _) (z0f (AV.le_refl _) (z0f (AV.le_refl _) (z0f (AV.le_refl _) (z0f (AV.le_nilS (by decide)) z3p))))))) _
theorem zlu {d : Desc} {i : Nat} {W : AV} {r : Rule} (h : AV.le W (z5w r)) : leL [.agg [.int .i64 d.in_, .int .i64 d.out, .int .i64 d.states, .int .i64 d.start, .lst 5 ((d.rules.map z5w).set i W), z40 d.finals]] [z1y ⟨d.in_, d.out, d.states, d.start, d.rules.set i r, d.finals⟩] := by
 refine z0f (AV.le_agg (z0f (AV.le_refl _) (z0f (AV.le_refl _) (z0f (AV.le_refl _) (z0f (AV.le_refl _) (z0f (AV.le_lst (by simp) (z1h _) ?_) (z0f (AV.le_refl _) z3p))))))) z3p
 rw [← zlt]
 exact zxm h _ _
theorem y1s {xs : List AV} {W : AV} {i : Nat} (h : z0l xs = true) (hw : W.pure = true) : z0l (xs.set i W) = true := z2i.2 fun y hy => by
 rcases List.mem_or_eq_of_mem_set hy with hy | rfl
 · exact z2i.1 h y hy
 · exact hw
set_option maxRecDepth 8000 in
set_option maxHeartbeats 1000000 in
theorem zf9 (d : Desc) (w at_ x : Int) (hx : -9223372036854775808 ≤ x ∧ x ≤ 9223372036854775807) : PC Try.prog 5 [z1y d, .int .i64 w, .int .i64 at_, .int .i64 x] (.bool true) := by
 have hA := zep
 have hS := zev d
 have hPr := z1h d.rules
 have hPf := z1v d.finals
 refine z0t z9f ?_
 unfold z5n
 cases hsm : z6y d with
 | false =>
   rw [hsm] at hS
   (repeat' (first | (simp (disch := omega) only [push_cast, ↓zz, seval]) | (with_reducible first | refine And.intro ?_ ?_ | (first | refine z01 ?_ ?_ | refine z00 ?_ ?_) <;> intro hc <;> (try simp only [push_cast] at hc)) | ((with_reducible first | refine eK hS ?_ | refine eQ hS ?_ | refine eG hS ?_)) | ((with_reducible first | refine eK hA ?_ | refine eQ hA ?_ | refine eG hA ?_)) | ((with_reducible first | refine cK hS ?_ | refine cQ hS ?_ | refine cG hS ?_); (simp (disch := omega) only [push_cast, ↓zz, seval]); (fail_if_success (with_reducible change False))) | ((with_reducible first | refine cK hA ?_ | refine cQ hA ?_ | refine cG hA ?_); (simp (disch := omega) only [push_cast, ↓zz, seval]); (fail_if_success (with_reducible change False))) | omega | with_reducible intro _))
 | true =>
 rw [hsm] at hS
 by_cases hn : d.rules.length = 0
 · (repeat' (first | (simp (disch := omega) only [push_cast, ↓zz, seval, hn]) | (with_reducible first | refine And.intro ?_ ?_ | (first | refine z01 ?_ ?_ | refine z00 ?_ ?_) <;> intro hc <;> (try simp only [push_cast] at hc)) | ((with_reducible first | refine eK hS ?_ | refine eQ hS ?_ | refine eG hS ?_)) | ((with_reducible first | refine eK hA ?_ | refine eQ hA ?_ | refine eG hA ?_)) | ((with_reducible first | refine cK hS ?_ | refine cQ hS ?_ | refine cG hS ?_); (simp (disch := omega) only [push_cast, ↓zz, seval, hn]); (fail_if_success (with_reducible change False))) | ((with_reducible first | refine cK hA ?_ | refine cQ hA ?_ | refine cG hA ?_); (simp (disch := omega) only [push_cast, ↓zz, seval, hn]); (fail_if_success (with_reducible change False))) | omega | with_reducible intro _))
 have hsh := zez hsm
 have hl80 : d.rules.length ≤ 80 := by
   simp only [z6y, Bool.and_eq_true, decide_eq_true_eq] at hsm
   exact hsm.1.1
 have hu := y2f at_
 have hv := y2f w
 generalize hue : IntKind.u64.wrap at_ = u at *
 generalize hve : IntKind.u64.wrap w = v at *
 have wl : IntKind.u64.wrap (d.rules.length : Int) = d.rules.length := IntWalk.u64_in _ (by omega)
 have wt : u.tmod (d.rules.length : Int) = u % (d.rules.length : Int) := Int.tmod_eq_emod_of_nonneg hu.1
 obtain ⟨i, hi⟩ : ∃ i : Nat, u % (d.rules.length : Int) = i := ⟨(u % (d.rules.length : Int)).toNat, by have := Int.emod_nonneg u (show (d.rules.length : Int) ≠ 0 by omega); omega⟩
 have hil : i < d.rules.length := by have := Int.emod_lt_of_pos u (show (0 : Int) < d.rules.length by omega); omega
 have wi : IntKind.u64.wrap (i : Int) = i := IntWalk.u64_in _ (by omega)
 have wj : IntKind.i64.wrap (i : Int) = i := IntWalk.i64_in _ (by omega)
 have wv : v.tmod 6 = v % 6 := Int.tmod_eq_emod_of_nonneg hv.1
 have wv2 : IntKind.u64.wrap (v % 6) = v % 6 := IntWalk.u64_in _ (by omega)
 have hv6 : 0 ≤ v % 6 ∧ v % 6 < 6 := by omega
 generalize v % 6 = q at *
 have hrm := z0k hil
 have hfo := hsh.fin.1 _ hrm
 have hfg := hsh.rg _ hrm
 have ho200 := y1p (zsy hsm hrm)
 have hset := zlt d.rules i
 have htake := zsx d.rules i
 have htake0 : List.take d.rules.length (d.rules.map z5w) = d.rules.map z5w := List.take_of_length_le (by simp)
 generalize hre : nth d.rules i = r at *
 obtain ⟨rf, rt, rg, re, ro⟩ := r
 simp only at hfo hfg ho200
 have hpt := z0w ro
 have hpg := z06 rg
 have hdl : ∀ r' : Rule, ∀ a b : Int, z1y ⟨d.in_, d.out, a, b, d.rules.set i r', d.finals⟩ = .agg [.int .i64 d.in_, .int .i64 d.out, .int .i64 a, .int .i64 b, z3j (d.rules.set i r'), z40 d.finals] := fun _ _ _ => rfl
 rcases (show q = 0 ∨ q = 1 ∨ q = 2 ∨ q = 3 ∨ q = 4 ∨ q = 5 by omega) with rfl | rfl | rfl | rfl | rfl | rfl
 · obtain ⟨k, a, h1, h2⟩ := z6h (zaf (i := i) (r := ⟨x, rt, rg, re, ro⟩) (a := d.states) (b := d.start) hsh hfo hfg)
   have e := hset ⟨x, rt, rg, re, ro⟩
   have e2 := htake ⟨x, rt, rg, re, ro⟩
   have hpp := z1h (d.rules.set i ⟨x, rt, rg, re, ro⟩)
   (repeat' (first | (simp (disch := omega) only [push_cast, ↓zz, seval, hPr, hPf, hn, hue, hve, wl, wt, hi, wi, wj, wv, wv2, hre, e, e2, hpp, hpt, hpg]) | (with_reducible first | refine And.intro ?_ ?_ | (first | refine z01 ?_ ?_ | refine z00 ?_ ?_) <;> intro hc <;> (try simp only [push_cast] at hc)) | ((with_reducible first | refine eK hS ?_ | refine eQ hS ?_ | refine eG hS ?_)) | ((with_reducible first | refine eK h1 ?_ | refine eQ h1 ?_ | refine eG h1 ?_)) | ((with_reducible first | refine eK h2 ?_ | refine eQ h2 ?_ | refine eG h2 ?_)) | ((with_reducible first | refine eK hA ?_ | refine eQ hA ?_ | refine eG hA ?_)) | ((with_reducible first | refine cK hS ?_ | refine cQ hS ?_ | refine cG hS ?_); (simp (disch := omega) only [push_cast, ↓zz, seval, hPr, hPf, hn, hue, hve, wl, wt, hi, wi, wj, wv, wv2, hre, e, e2, hpp, hpt, hpg]); (fail_if_success (with_reducible change False))) | ((with_reducible first | refine cK h1 ?_ | refine cQ h1 ?_ | refine cG h1 ?_); (simp (disch := omega) only [push_cast, ↓zz, seval, hPr, hPf, hn, hue, hve, wl, wt, hi, wi, wj, wv, wv2, hre, e, e2, hpp, hpt, hpg]); (fail_if_success (with_reducible change False))) | ((with_reducible first | refine cK h2 ?_ | refine cQ h2 ?_ | refine cG h2 ?_); (simp (disch := omega) only [push_cast, ↓zz, seval, hPr, hPf, hn, hue, hve, wl, wt, hi, wi, wj, wv, wv2, hre, e, e2, hpp, hpt, hpg]); (fail_if_success (with_reducible change False))) | ((with_reducible first | refine cK hA ?_ | refine cQ hA ?_ | refine cG hA ?_); (simp (disch := omega) only [push_cast, ↓zz, seval, hPr, hPf, hn, hue, hve, wl, wt, hi, wi, wj, wv, wv2, hre, e, e2, hpp, hpt, hpg]); (fail_if_success (with_reducible change False))) | omega | with_reducible intro _))
   all_goals (exfalso; revert hc; decide)
 · obtain ⟨k, a, h1, h2⟩ := z6h (zaf (i := i) (r := ⟨rf, x, rg, re, ro⟩) (a := d.states) (b := d.start) hsh hfo hfg)
   have e := hset ⟨rf, x, rg, re, ro⟩
   have e2 := htake ⟨rf, x, rg, re, ro⟩
   have hpp := z1h (d.rules.set i ⟨rf, x, rg, re, ro⟩)
   (repeat' (first | (simp (disch := omega) only [push_cast, ↓zz, seval, hPr, hPf, hn, hue, hve, wl, wt, hi, wi, wj, wv, wv2, hre, e, e2, hpp, hpt, hpg]) | (with_reducible first | refine And.intro ?_ ?_ | (first | refine z01 ?_ ?_ | refine z00 ?_ ?_) <;> intro hc <;> (try simp only [push_cast] at hc)) | ((with_reducible first | refine eK hS ?_ | refine eQ hS ?_ | refine eG hS ?_)) | ((with_reducible first | refine eK h1 ?_ | refine eQ h1 ?_ | refine eG h1 ?_)) | ((with_reducible first | refine eK h2 ?_ | refine eQ h2 ?_ | refine eG h2 ?_)) | ((with_reducible first | refine eK hA ?_ | refine eQ hA ?_ | refine eG hA ?_)) | ((with_reducible first | refine cK hS ?_ | refine cQ hS ?_ | refine cG hS ?_); (simp (disch := omega) only [push_cast, ↓zz, seval, hPr, hPf, hn, hue, hve, wl, wt, hi, wi, wj, wv, wv2, hre, e, e2, hpp, hpt, hpg]); (fail_if_success (with_reducible change False))) | ((with_reducible first | refine cK h1 ?_ | refine cQ h1 ?_ | refine cG h1 ?_); (simp (disch := omega) only [push_cast, ↓zz, seval, hPr, hPf, hn, hue, hve, wl, wt, hi, wi, wj, wv, wv2, hre, e, e2, hpp, hpt, hpg]); (fail_if_success (with_reducible change False))) | ((with_reducible first | refine cK h2 ?_ | refine cQ h2 ?_ | refine cG h2 ?_); (simp (disch := omega) only [push_cast, ↓zz, seval, hPr, hPf, hn, hue, hve, wl, wt, hi, wi, wj, wv, wv2, hre, e, e2, hpp, hpt, hpg]); (fail_if_success (with_reducible change False))) | ((with_reducible first | refine cK hA ?_ | refine cQ hA ?_ | refine cG hA ?_); (simp (disch := omega) only [push_cast, ↓zz, seval, hPr, hPf, hn, hue, hve, wl, wt, hi, wi, wj, wv, wv2, hre, e, e2, hpp, hpt, hpg]); (fail_if_success (with_reducible change False))) | omega | with_reducible intro _))
   all_goals (exfalso; revert hc; decide)
 · obtain ⟨k, a, h1, h2⟩ := z6h (zaf (i := i) (r := ⟨rf, rt, rg, x, ro⟩) (a := d.states) (b := d.start) hsh hfo hfg)
   have e := hset ⟨rf, rt, rg, x, ro⟩
   have e2 := htake ⟨rf, rt, rg, x, ro⟩
   have hpp := z1h (d.rules.set i ⟨rf, rt, rg, x, ro⟩)
   (repeat' (first | (simp (disch := omega) only [push_cast, ↓zz, seval, hPr, hPf, hn, hue, hve, wl, wt, hi, wi, wj, wv, wv2, hre, e, e2, hpp, hpt, hpg]) | (with_reducible first | refine And.intro ?_ ?_ | (first | refine z01 ?_ ?_ | refine z00 ?_ ?_) <;> intro hc <;> (try simp only [push_cast] at hc)) | ((with_reducible first | refine eK hS ?_ | refine eQ hS ?_ | refine eG hS ?_)) | ((with_reducible first | refine eK h1 ?_ | refine eQ h1 ?_ | refine eG h1 ?_)) | ((with_reducible first | refine eK h2 ?_ | refine eQ h2 ?_ | refine eG h2 ?_)) | ((with_reducible first | refine eK hA ?_ | refine eQ hA ?_ | refine eG hA ?_)) | ((with_reducible first | refine cK hS ?_ | refine cQ hS ?_ | refine cG hS ?_); (simp (disch := omega) only [push_cast, ↓zz, seval, hPr, hPf, hn, hue, hve, wl, wt, hi, wi, wj, wv, wv2, hre, e, e2, hpp, hpt, hpg]); (fail_if_success (with_reducible change False))) | ((with_reducible first | refine cK h1 ?_ | refine cQ h1 ?_ | refine cG h1 ?_); (simp (disch := omega) only [push_cast, ↓zz, seval, hPr, hPf, hn, hue, hve, wl, wt, hi, wi, wj, wv, wv2, hre, e, e2, hpp, hpt, hpg]); (fail_if_success (with_reducible change False))) | ((with_reducible first | refine cK h2 ?_ | refine cQ h2 ?_ | refine cG h2 ?_); (simp (disch := omega) only [push_cast, ↓zz, seval, hPr, hPf, hn, hue, hve, wl, wt, hi, wi, wj, wv, wv2, hre, e, e2, hpp, hpt, hpg]); (fail_if_success (with_reducible change False))) | ((with_reducible first | refine cK hA ?_ | refine cQ hA ?_ | refine cG hA ?_); (simp (disch := omega) only [push_cast, ↓zz, seval, hPr, hPf, hn, hue, hve, wl, wt, hi, wi, wj, wv, wv2, hre, e, e2, hpp, hpt, hpg]); (fail_if_success (with_reducible change False))) | omega | with_reducible intro _))
   all_goals (exfalso; revert hc; decide)
 · obtain ⟨k, a, h1, h2⟩ := z6h (show z5h ⟨d.in_, d.out, x, d.start, d.rules, d.finals⟩ from ⟨hsh.fin, hsh.rg, hsh.fg⟩)
   (repeat' (first | (simp (disch := omega) only [push_cast, ↓zz, seval, hPr, hPf, hn, hue, hve, wl, wt, hi, wi, wj, wv, wv2, hre, htake0, hpt, hpg]) | (with_reducible first | refine And.intro ?_ ?_ | (first | refine z01 ?_ ?_ | refine z00 ?_ ?_) <;> intro hc <;> (try simp only [push_cast] at hc)) | ((with_reducible first | refine eK hS ?_ | refine eQ hS ?_ | refine eG hS ?_)) | ((with_reducible first | refine eK h1 ?_ | refine eQ h1 ?_ | refine eG h1 ?_)) | ((with_reducible first | refine eK h2 ?_ | refine eQ h2 ?_ | refine eG h2 ?_)) | ((with_reducible first | refine eK hA ?_ | refine eQ hA ?_ | refine eG hA ?_)) | ((with_reducible first | refine cK hS ?_ | refine cQ hS ?_ | refine cG hS ?_); (simp (disch := omega) only [push_cast, ↓zz, seval, hPr, hPf, hn, hue, hve, wl, wt, hi, wi, wj, wv, wv2, hre, htake0, hpt, hpg]); (fail_if_success (with_reducible change False))) | ((with_reducible first | refine cK h1 ?_ | refine cQ h1 ?_ | refine cG h1 ?_); (simp (disch := omega) only [push_cast, ↓zz, seval, hPr, hPf, hn, hue, hve, wl, wt, hi, wi, wj, wv, wv2, hre, htake0, hpt, hpg]); (fail_if_success (with_reducible change False))) | ((with_reducible first | refine cK h2 ?_ | refine cQ h2 ?_ | refine cG h2 ?_); (simp (disch := omega) only [push_cast, ↓zz, seval, hPr, hPf, hn, hue, hve, wl, wt, hi, wi, wj, wv, wv2, hre, htake0, hpt, hpg]); (fail_if_success (with_reducible change False))) | ((with_reducible first | refine cK hA ?_ | refine cQ hA ?_ | refine cG hA ?_); (simp (disch := omega) only [push_cast, ↓zz, seval, hPr, hPf, hn, hue, hve, wl, wt, hi, wi, wj, wv, wv2, hre, htake0, hpt, hpg]); (fail_if_success (with_reducible change False))) | omega | with_reducible intro _))
   all_goals (exfalso; revert hc; decide)
 · obtain ⟨k, a, h1, h2⟩ := z6h (show z5h ⟨d.in_, d.out, d.states, x, d.rules, d.finals⟩ from ⟨hsh.fin, hsh.rg, hsh.fg⟩)
   (repeat' (first | (simp (disch := omega) only [push_cast, ↓zz, seval, hPr, hPf, hn, hue, hve, wl, wt, hi, wi, wj, wv, wv2, hre, htake0, hpt, hpg]) | (with_reducible first | refine And.intro ?_ ?_ | (first | refine z01 ?_ ?_ | refine z00 ?_ ?_) <;> intro hc <;> (try simp only [push_cast] at hc)) | ((with_reducible first | refine eK hS ?_ | refine eQ hS ?_ | refine eG hS ?_)) | ((with_reducible first | refine eK h1 ?_ | refine eQ h1 ?_ | refine eG h1 ?_)) | ((with_reducible first | refine eK h2 ?_ | refine eQ h2 ?_ | refine eG h2 ?_)) | ((with_reducible first | refine eK hA ?_ | refine eQ hA ?_ | refine eG hA ?_)) | ((with_reducible first | refine cK hS ?_ | refine cQ hS ?_ | refine cG hS ?_); (simp (disch := omega) only [push_cast, ↓zz, seval, hPr, hPf, hn, hue, hve, wl, wt, hi, wi, wj, wv, wv2, hre, htake0, hpt, hpg]); (fail_if_success (with_reducible change False))) | ((with_reducible first | refine cK h1 ?_ | refine cQ h1 ?_ | refine cG h1 ?_); (simp (disch := omega) only [push_cast, ↓zz, seval, hPr, hPf, hn, hue, hve, wl, wt, hi, wi, wj, wv, wv2, hre, htake0, hpt, hpg]); (fail_if_success (with_reducible change False))) | ((with_reducible first | refine cK h2 ?_ | refine cQ h2 ?_ | refine cG h2 ?_); (simp (disch := omega) only [push_cast, ↓zz, seval, hPr, hPf, hn, hue, hve, wl, wt, hi, wi, wj, wv, wv2, hre, htake0, hpt, hpg]); (fail_if_success (with_reducible change False))) | ((with_reducible first | refine cK hA ?_ | refine cQ hA ?_ | refine cG hA ?_); (simp (disch := omega) only [push_cast, ↓zz, seval, hPr, hPf, hn, hue, hve, wl, wt, hi, wi, wj, wv, wv2, hre, htake0, hpt, hpg]); (fail_if_success (with_reducible change False))) | omega | with_reducible intro _))
   all_goals (exfalso; revert hc; decide)
 · obtain ⟨k, a, h1, h2⟩ := z6h (zaf (i := i) (r := ⟨rf, rt, rg, re, ro ++ [⟨0, 0, 21, 0, x, []⟩]⟩) (a := d.states) (b := d.start) hsh (fun t ht => by
     rcases List.mem_append.1 ht with ht | ht
     · exact hfo t ht
     · simp only [List.mem_singleton] at ht; subst ht; simp) hfg)
   have hW := y1r rf rt rg re ro x
   have hpw := zt0 rf rt rg re ro x
   have hpp : z0l ((d.rules.map z5w).set i (zsz rf rt rg re ro x)) = true := y1s hPr (by simp only [AV.pure, z0l, hpg, hpw]; rfl)
   have h1 := z8u h1 (zlu hW)
   have h2 := z8u h2 (zlu hW)
   have hT : List.take (ro.length + 1) (ro.map z1m ++ [y1q x]) = ro.map z1m ++ [y1q x] := List.take_of_length_le (by simp)
   by_cases hro : ro = []
   · subst hro
     (repeat' (first | (simp (disch := omega) only [push_cast, ↓zz, seval, hPr, hPf, hn, hue, hve, wl, wt, hi, wi, wj, wv, wv2, hre, hpp, hpt, hpg]) | (with_reducible first | refine And.intro ?_ ?_ | (first | refine z01 ?_ ?_ | refine z00 ?_ ?_) <;> intro hc <;> (try simp only [push_cast] at hc)) | ((with_reducible first | refine eK hS ?_ | refine eQ hS ?_ | refine eG hS ?_)) | ((with_reducible first | refine eK h1 ?_ | refine eQ h1 ?_ | refine eG h1 ?_)) | ((with_reducible first | refine eK h2 ?_ | refine eQ h2 ?_ | refine eG h2 ?_)) | ((with_reducible first | refine eK hA ?_ | refine eQ hA ?_ | refine eG hA ?_)) | ((with_reducible first | refine cK hS ?_ | refine cQ hS ?_ | refine cG hS ?_); (simp (disch := omega) only [push_cast, ↓zz, seval, hPr, hPf, hn, hue, hve, wl, wt, hi, wi, wj, wv, wv2, hre, hpp, hpt, hpg]); (fail_if_success (with_reducible change False))) | ((with_reducible first | refine cK h1 ?_ | refine cQ h1 ?_ | refine cG h1 ?_); (simp (disch := omega) only [push_cast, ↓zz, seval, hPr, hPf, hn, hue, hve, wl, wt, hi, wi, wj, wv, wv2, hre, hpp, hpt, hpg]); (fail_if_success (with_reducible change False))) | ((with_reducible first | refine cK h2 ?_ | refine cQ h2 ?_ | refine cG h2 ?_); (simp (disch := omega) only [push_cast, ↓zz, seval, hPr, hPf, hn, hue, hve, wl, wt, hi, wi, wj, wv, wv2, hre, hpp, hpt, hpg]); (fail_if_success (with_reducible change False))) | ((with_reducible first | refine cK hA ?_ | refine cQ hA ?_ | refine cG hA ?_); (simp (disch := omega) only [push_cast, ↓zz, seval, hPr, hPf, hn, hue, hve, wl, wt, hi, wi, wj, wv, wv2, hre, hpp, hpt, hpg]); (fail_if_success (with_reducible change False))) | omega | with_reducible intro _))
     all_goals first
       | refine (zqd (Y := zsz rf rt rg re [] x) (by simp) hPr ?_ ?_).1
       | refine (zqd (Y := zsz rf rt rg re [] x) (by simp) hPr ?_ ?_).2
     all_goals (simp (disch := omega) only [push_cast, ↓zz, seval, hpt, hpg])
     all_goals rfl
   · have hem : (ro.map z1m).isEmpty = false := by
       cases ro with
       | nil => exact absurd rfl hro
       | cons _ _ => rfl
     (repeat' (first | (simp (disch := omega) only [push_cast, ↓zz, seval, hPr, hPf, hn, hue, hve, wl, wt, hi, wi, wj, wv, wv2, hre, hpp, hpt, hpg, hem]) | (with_reducible first | refine And.intro ?_ ?_ | (first | refine z01 ?_ ?_ | refine z00 ?_ ?_) <;> intro hc <;> (try simp only [push_cast] at hc)) | ((with_reducible first | refine eK hS ?_ | refine eQ hS ?_ | refine eG hS ?_)) | ((with_reducible first | refine eK h1 ?_ | refine eQ h1 ?_ | refine eG h1 ?_)) | ((with_reducible first | refine eK h2 ?_ | refine eQ h2 ?_ | refine eG h2 ?_)) | ((with_reducible first | refine eK hA ?_ | refine eQ hA ?_ | refine eG hA ?_)) | ((with_reducible first | refine cK hS ?_ | refine cQ hS ?_ | refine cG hS ?_); (simp (disch := omega) only [push_cast, ↓zz, seval, hPr, hPf, hn, hue, hve, wl, wt, hi, wi, wj, wv, wv2, hre, hpp, hpt, hpg, hem]); (fail_if_success (with_reducible change False))) | ((with_reducible first | refine cK h1 ?_ | refine cQ h1 ?_ | refine cG h1 ?_); (simp (disch := omega) only [push_cast, ↓zz, seval, hPr, hPf, hn, hue, hve, wl, wt, hi, wi, wj, wv, wv2, hre, hpp, hpt, hpg, hem]); (fail_if_success (with_reducible change False))) | ((with_reducible first | refine cK h2 ?_ | refine cQ h2 ?_ | refine cG h2 ?_); (simp (disch := omega) only [push_cast, ↓zz, seval, hPr, hPf, hn, hue, hve, wl, wt, hi, wi, wj, wv, wv2, hre, hpp, hpt, hpg, hem]); (fail_if_success (with_reducible change False))) | ((with_reducible first | refine cK hA ?_ | refine cQ hA ?_ | refine cG hA ?_); (simp (disch := omega) only [push_cast, ↓zz, seval, hPr, hPf, hn, hue, hve, wl, wt, hi, wi, wj, wv, wv2, hre, hpp, hpt, hpg, hem]); (fail_if_success (with_reducible change False))) | omega | with_reducible intro _))
     all_goals first
       | refine (zqd (Y := zsz rf rt rg re ro x) (by simp) hPr ?_ ?_).1
       | refine (zqd (Y := zsz rf rt rg re ro x) (by simp) hPr ?_ ?_).2
     all_goals (try (simp (disch := omega) only [push_cast, ↓zz, seval, hpt, hpg, hT, hpw]))
     all_goals (try rfl)
end Go.Proofs.Yticodgjinajkpaa
