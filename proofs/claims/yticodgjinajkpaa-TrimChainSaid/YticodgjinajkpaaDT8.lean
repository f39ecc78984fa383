/-
  trim: which states come, which go on.
  trim: lists of marks; guards and terms in memory of their own.
  trim.own: guards and terms, once more.
  The document's example of layer 6; descriptions that write what they read are well formed.
  trim.Trim, as the code goes through it.
  What edges lead to, where it is known; the document's example of layer 9.
  The law DescSizes.
  The document's answer for epsilon rules that lead back.
  The law DescCycles.
  The document's numbers in order, their sums, and their spans.
  All sums of two lists of numbers.
  The document's inner values: sets moved, places together.
  The document's inner values of a term: the walk.
  The plain law of the document's inner values: the sums of all windows.
  The document's Fits, guards and terms.
  The document's Fits and guards are the program's.
  The document's guards and terms, how great a description is: the walk.
  What is wrong first with a description, as the document says it; the law DescWheres.
  The document's sameness of descriptions.
  The document's Join.
  The law DescWheres.
  The law DescJoins.
  What is trimmed is well formed, all its states come and go on, and trimming it again changes nothing: plain.
  The law TrimTwice.
  The law DescMakes.
  The law TrimChain.
  The law TrimChain, as the code goes.
-/
import Derived.Test.YticodgjinajkpaaDT7
import Derived.Test.YticodgjinajkpaaDT5
set_option linter.unusedSimpArgs false
set_option linter.unusedVariables false
namespace Go.Proofs.Yticodgjinajkpaa
open Abs
def fwdE (d : Desc) : List (Int × Int) := d.rules.map fun r => (r.from_, r.to_)
def bwdE (d : Desc) : List (Int × Int) := d.rules.map fun r => (r.to_, r.from_)
def endE (d : Desc) : List Int := d.finals.map (·.from_)
structure Wf (d : Desc) : Prop where
 n : ∃ n : Nat, d.states = n ∧ 1 ≤ n ∧ n ≤ 1024
 start : 0 ≤ d.start ∧ d.start < d.states
 rl : d.rules.length ≤ 4096
 fl : d.finals.length ≤ 4096
 r : ∀ r ∈ d.rules, (0 ≤ r.from_ ∧ r.from_ < d.states) ∧ 0 ≤ r.to_ ∧ r.to_ < d.states
 f : ∀ f ∈ d.finals, 0 ≤ f.from_ ∧ f.from_ < d.states
theorem z8f {d : Desc} (h : z2s d = 0) : Wf d := by
 obtain ⟨h1, h2, h3⟩ := z59 h
 have h4 := zwi h1
 refine ⟨⟨d.states.toNat, by omega, by omega, by omega⟩, h4.2.2.2, h4.2.1, h4.2.2.1, fun r hr => zwj (h2 r hr), fun f hf => ?_⟩
 have := h3 f hf
 simp only [z4h, z5s, Bool.and_eq_true, decide_eq_true_eq] at this
 exact this.1
theorem Wf.fwd {d : Desc} (h : Wf d) {n : Nat} (hn : d.states = n) : InR n [d.start] (fwdE d) where
 f s hs := by simp only [List.mem_singleton] at hs; subst hs; have := h.start; omega
 e e he := by
   obtain ⟨r, hr, rfl⟩ := List.mem_map.1 he
   have := h.r r hr
   simp only
   omega
theorem Wf.bwd {d : Desc} (h : Wf d) {n : Nat} (hn : d.states = n) : InR n (endE d) (bwdE d) where
 f s hs := by
   obtain ⟨f, hf, rfl⟩ := List.mem_map.1 hs
   have := h.f f hf
   omega
 e e he := by
   obtain ⟨r, hr, rfl⟩ := List.mem_map.1 he
   have := h.r r hr
   simp only
   omega
noncomputable def z6t (d : Desc) : List Bool := z3l d.states.toNat [d.start] (fwdE d)
noncomputable def goL (d : Desc) : List Bool := z3l d.states.toNat (endE d) (bwdE d)
theorem z96 {α β : Type} [Inhabited α] {l : List α} {f : α → β} {k : Nat} (h : k < l.length) : (l.map f).take (k + 1) = (l.map f).take k ++ [f (nth l k)] := by
 rw [← List.map_take, take_at h, List.map_append, List.map_take]; rfl
theorem zg7 (d : Desc) (h : Wf d) : PC Try.prog 44 [z2r d] (zb0 (z6t d)) := by
 obtain ⟨n, hn, hn1, hn2⟩ := h.n
 have hr := h.fwd hn
 have hrl := h.rl
 have pR := z1a d.rules
 have pF := z1b d.finals
 have hS := ze6 n [d.start] (fwdE d) hn2 (by simp) (by simp) (by simp [fwdE]; omega) hr
 have ec : z6t d = z3l n [d.start] (fwdE d) := by rw [z6t, hn]; rfl
 rw [ec]
 have hel : (fwdE d).length = d.rules.length := by simp [fwdE]
 refine z0v zjp ?_
 unfold zb9
 (repeat' (first | (simp (disch := omega) only [push_cast, ↓zz, seval, pR, pF]) | (with_reducible first | refine And.intro ?_ ?_ | (first | refine z01 ?_ ?_ | refine z00 ?_ ?_) <;> intro hc <;> (try simp only [push_cast] at hc)) | omega | with_reducible intro _))
 refine z0n (z0p (fun (k : Nat) => k ≤ d.rules.length) (fun k => d.rules.length - k)
   (fun k => [(1, .ptr 0 1 0 0), (3, .ref 1 1 0 k), (7, z5q d.rules), (8, .int .i64 d.rules.length), (9, .int .i64 k)]) (fun k => [⟨6, 1, true, [z2r d]⟩, ⟨2, 1, false, ((fwdE d).take k).map arcV⟩]) (fun env _ => [z0r 6 (env 1), z0r 2 (env 3)]) 0 (by simp) ?_ ?_)
 · (repeat' (first | (simp (disch := omega) only [push_cast, ↓zz, seval, pR, pF]) | (with_reducible first | refine And.intro ?_ ?_ | (first | refine z01 ?_ ?_ | refine z00 ?_ ?_) <;> intro hc <;> (try simp only [push_cast] at hc)) | omega | with_reducible intro _))
 intro k hk
 rcases Nat.lt_or_ge k d.rules.length with hkl | hkl
 · have e1 : (fwdE d).take (k + 1) = (fwdE d).take k ++ [((nth d.rules k).from_, (nth d.rules k).to_)] := z96 hkl
   have hll : ((fwdE d).take k).length = k := by simp [fwdE]; omega
   generalize hre : nth d.rules k = r at *
   have hgr := z07 r.guards
   have hot := z0z r.out
   have hpl := z6h ((fwdE d).take k)
   generalize (fwdE d).take k = L at *
   refine W_T ?_
   (repeat' (first | (simp (disch := omega) only [push_cast, ↓zz, seval, pR, pF, hre, hgr, hot]) | (with_reducible first | refine And.intro ?_ ?_ | (first | refine z01 ?_ ?_ | refine z00 ?_ ?_) <;> intro hc <;> (try simp only [push_cast] at hc)) | omega | with_reducible intro _))
   all_goals
     refine ⟨k + 1, ?_⟩
     (repeat' (first | (simp (disch := omega) only [push_cast, ↓zz, seval, e1, hpl]) | (with_reducible first | refine And.intro ?_ ?_ | (first | refine z01 ?_ ?_ | refine z00 ?_ ?_) <;> intro hc <;> (try simp only [push_cast] at hc)) | omega | with_reducible intro _))
 · obtain rfl : k = d.rules.length := by omega
   have et : (fwdE d).take d.rules.length = fwdE d := List.take_of_length_le (by omega)
   have pE := z6h (fwdE d)
   rw [et]
   refine W_T ?_
   (repeat' (first | (simp (disch := omega) only [push_cast, ↓zz, seval, pR, pF, hn, pE, hel, et]) | (with_reducible first | refine And.intro ?_ ?_ | (first | refine z01 ?_ ?_ | refine z00 ?_ ?_) <;> intro hc <;> (try simp only [push_cast] at hc)) | ((with_reducible first | refine eK hS ?_ | refine eQ hS ?_ | refine eG hS ?_)) | ((with_reducible first | refine cK hS ?_ | refine cQ hS ?_ | refine cG hS ?_); (simp (disch := omega) only [push_cast, ↓zz, seval, pR, pF, hn, pE, hel, et]); (fail_if_success (with_reducible change False))) | omega | with_reducible intro _))
   all_goals trace_state
theorem ze8 (d : Desc) (h : Wf d) : PC Try.prog 45 [z2r d] (zb0 (goL d)) := by
 obtain ⟨n, hn, hn1, hn2⟩ := h.n
 have hr := h.bwd hn
 have hrl := h.rl
 have hfl := h.fl
 have pR := z1a d.rules
 have pF := z1b d.finals
 have ec : goL d = z3l n (endE d) (bwdE d) := by rw [goL, hn]; rfl
 rw [ec]
 have hel : (bwdE d).length = d.rules.length := by simp [bwdE]
 have hfl2 : (endE d).length = d.finals.length := by simp [endE]
 refine z0v zhd ?_
 unfold z9q
 (repeat' (first | (simp (disch := omega) only [push_cast, ↓zz, seval, pR, pF]) | (with_reducible first | refine And.intro ?_ ?_ | (first | refine z01 ?_ ?_ | refine z00 ?_ ?_) <;> intro hc <;> (try simp only [push_cast] at hc)) | omega | with_reducible intro _))
 refine z0n (z0p (fun (k : Nat) => k ≤ d.rules.length) (fun k => d.rules.length - k)
   (fun k => [(1, .ptr 0 1 0 0), (3, .ref 1 1 0 k), (4, .nilS), (10, z5q d.rules), (11, .int .i64 d.rules.length), (12, .int .i64 k)]) (fun k => [⟨6, 1, true, [z2r d]⟩, ⟨2, 1, false, ((bwdE d).take k).map arcV⟩]) (fun env _ => [z0r 6 (env 1), z0r 2 (env 3)]) 0 (by simp) ?_ ?_)
 · (repeat' (first | (simp (disch := omega) only [push_cast, ↓zz, seval, pR, pF]) | (with_reducible first | refine And.intro ?_ ?_ | (first | refine z01 ?_ ?_ | refine z00 ?_ ?_) <;> intro hc <;> (try simp only [push_cast] at hc)) | omega | with_reducible intro _))
 intro k hk
 rcases Nat.lt_or_ge k d.rules.length with hkl | hkl
 · have e1 : (bwdE d).take (k + 1) = (bwdE d).take k ++ [((nth d.rules k).to_, (nth d.rules k).from_)] := z96 hkl
   have hll : ((bwdE d).take k).length = k := by simp [bwdE]; omega
   generalize hre : nth d.rules k = r at *
   have hgr := z07 r.guards
   have hot := z0z r.out
   have hpl := z6h ((bwdE d).take k)
   generalize (bwdE d).take k = L at *
   refine W_T ?_
   (repeat' (first | (simp (disch := omega) only [push_cast, ↓zz, seval, pR, pF, hre, hgr, hot]) | (with_reducible first | refine And.intro ?_ ?_ | (first | refine z01 ?_ ?_ | refine z00 ?_ ?_) <;> intro hc <;> (try simp only [push_cast] at hc)) | omega | with_reducible intro _))
   all_goals
     refine ⟨k + 1, ?_⟩
     (repeat' (first | (simp (disch := omega) only [push_cast, ↓zz, seval, e1, hpl]) | (with_reducible first | refine And.intro ?_ ?_ | (first | refine z01 ?_ ?_ | refine z00 ?_ ?_) <;> intro hc <;> (try simp only [push_cast] at hc)) | omega | with_reducible intro _))
 · obtain rfl : k = d.rules.length := by omega
   have et : (bwdE d).take d.rules.length = bwdE d := List.take_of_length_le (by omega)
   have pE := z6h (bwdE d)
   rw [et]
   clear hk hkl
   refine W_T ?_
   (repeat' (first | (simp (disch := omega) only [push_cast, ↓zz, seval, pR, pF, hn, pE, hel, et]) | (with_reducible first | refine And.intro ?_ ?_ | (first | refine z01 ?_ ?_ | refine z00 ?_ ?_) <;> intro hc <;> (try simp only [push_cast] at hc)) | omega | with_reducible intro _))
   by_cases hfe : d.finals = []
   · have hfe2 : endE d = [] := by rw [endE, hfe]; rfl
     rw [hfe2] at hr ⊢
     have hS := zs3 n (bwdE d) hn2 (by omega) hr
     have hfe3 : d.finals.length = 0 := by rw [hfe]; rfl
     refine z0n (z0p (fun (_ : Unit) => True) (fun _ => 0)
       (fun k => [(1, .ptr 0 1 0 0), (3, .ref 1 1 0 d.rules.length), (4, .nilS), (26, zd3 d.finals), (27, .int .i64 d.finals.length), (28, .int .i64 0)]) (fun k => [⟨6, 1, true, [z2r d]⟩, ⟨2, 1, false, (bwdE d).map arcV⟩]) (fun env _ => [z0r 6 (env 1), z0r 2 (env 3)]) () trivial ?_ ?_)
     · (repeat' (first | (simp (disch := omega) only [push_cast, ↓zz, seval, pR, pF, pE]) | (with_reducible first | refine And.intro ?_ ?_ | (first | refine z01 ?_ ?_ | refine z00 ?_ ?_) <;> intro hc <;> (try simp only [push_cast] at hc)) | omega | with_reducible intro _))
     rintro ⟨⟩ _
     refine W_T ?_
     (repeat' (first | (simp (disch := omega) only [push_cast, ↓zz, seval, pR, pF, hn, pE, hel, et]) | (with_reducible first | refine And.intro ?_ ?_ | (first | refine z01 ?_ ?_ | refine z00 ?_ ?_) <;> intro hc <;> (try simp only [push_cast] at hc)) | ((with_reducible first | refine eK hS ?_ | refine eQ hS ?_ | refine eG hS ?_)) | ((with_reducible first | refine cK hS ?_ | refine cQ hS ?_ | refine cG hS ?_); (simp (disch := omega) only [push_cast, ↓zz, seval, pR, pF, hn, pE, hel, et]); (fail_if_success (with_reducible change False))) | omega | with_reducible intro _))
     all_goals first | omega | trace_state
   · have hne : endE d ≠ [] := by simp [endE, hfe]
     have hS := ze6 n (endE d) (bwdE d) hn2 hne (by omega) (by omega) hr
     refine z0n (z0p (fun (k : Nat) => k ≤ d.finals.length) (fun k => d.finals.length - k)
       (fun k => [(1, .ptr 0 1 0 0), (3, .ref 1 1 0 d.rules.length), (4, .ref 2 1 0 k), (26, zd3 d.finals), (27, .int .i64 d.finals.length), (28, .int .i64 k)]) (fun k => [⟨6, 1, true, [z2r d]⟩, ⟨2, 1, false, (bwdE d).map arcV⟩, ⟨1, 1, false, ((endE d).take k).map (AV.int .i64)⟩]) (fun env _ => [z0r 6 (env 1), z0r 2 (env 3), z0r 1 (env 4)]) 0 (by simp) ?_ ?_)
     · (repeat' (first | (simp (disch := omega) only [push_cast, ↓zz, seval, pR, pF, pE]) | (with_reducible first | refine And.intro ?_ ?_ | (first | refine z01 ?_ ?_ | refine z00 ?_ ?_) <;> intro hc <;> (try simp only [push_cast] at hc)) | omega | with_reducible intro _))
     intro k hk
     rcases Nat.lt_or_ge k d.finals.length with hkl | hkl
     · have e1 : (endE d).take (k + 1) = (endE d).take k ++ [(nth d.finals k).from_] := z96 hkl
       have hll : ((endE d).take k).length = k := by simp; omega
       generalize hre : nth d.finals k = r at *
       have hgr := z07 r.guards
       have hot := z0z r.out
       generalize (endE d).take k = L at *
       refine W_T ?_
       (repeat' (first | (simp (disch := omega) only [push_cast, ↓zz, seval, pR, pF, pE, hel, hre, hgr, hot]) | (with_reducible first | refine And.intro ?_ ?_ | (first | refine z01 ?_ ?_ | refine z00 ?_ ?_) <;> intro hc <;> (try simp only [push_cast] at hc)) | omega | with_reducible intro _))
       all_goals
         refine ⟨k + 1, ?_⟩
         (repeat' (first | (simp (disch := omega) only [push_cast, ↓zz, seval, e1, hel]) | (with_reducible first | refine And.intro ?_ ?_ | (first | refine z01 ?_ ?_ | refine z00 ?_ ?_) <;> intro hc <;> (try simp only [push_cast] at hc)) | omega | with_reducible intro _))
     · obtain rfl : k = d.finals.length := by omega
       have et3 : (endE d).take d.finals.length = endE d := List.take_of_length_le (by omega)
       have pI : z0h ((endE d).map (AV.int .i64)) = true := z3c .i64 _
       rw [et3]
       clear hk hkl
       refine W_T ?_
       (repeat' (first | (simp (disch := omega) only [push_cast, ↓zz, seval, pR, pF, hn, pE, hel, pI, hfl2, et, et3]) | (with_reducible first | refine And.intro ?_ ?_ | (first | refine z01 ?_ ?_ | refine z00 ?_ ?_) <;> intro hc <;> (try simp only [push_cast] at hc)) | ((with_reducible first | refine eK hS ?_ | refine eQ hS ?_ | refine eG hS ?_)) | ((with_reducible first | refine cK hS ?_ | refine cQ hS ?_ | refine cG hS ?_); (simp (disch := omega) only [push_cast, ↓zz, seval, pR, pF, hn, pE, hel, pI, hfl2, et, et3]); (fail_if_success (with_reducible change False))) | omega | with_reducible intro _))
       all_goals trace_state
def z7k (l : List Bool) (k : Nat) : List Int := ((List.range k).filter fun i => nth l i).map fun i : Nat => (i : Int)
theorem zas (l : List Bool) (k : Nat) : z7k l (k + 1) = if nth l k = true then z7k l k ++ [(k : Int)] else z7k l k := by
 simp only [z7k, List.range_succ, List.filter_append, List.map_append, List.filter_cons, List.filter_nil]
 split <;> simp_all
theorem zwl (l : List Bool) (k : Nat) : (z7k l k).length ≤ k := by
 have := List.length_filter_le (fun i => nth l i) (List.range k)
 simpa [z7k] using this
theorem z6j (l : List Bool) : z0h (l.map AV.bool) = true := z3j (fun _ => rfl) l
theorem zkm (l : List Bool) (hl : l.length ≤ 1000000) : PC Try.prog 47 [zb0 l] (z4k (z7k l l.length)) := by
 have pB := z6j l
 refine z0v zlv ?_
 unfold zd7
 (repeat' (first | (simp (disch := omega) only [push_cast, ↓zz, seval, pB]) | (with_reducible first | refine And.intro ?_ ?_ | (first | refine z01 ?_ ?_ | refine z00 ?_ ?_) <;> intro hc <;> (try simp only [push_cast] at hc)) | omega | with_reducible intro _))
 refine z0n (z0p (fun (k : Nat) => k ≤ l.length) (fun k => l.length - k)
   (fun k => [(3, .ref 0 1 0 (z7k l k).length), (6, zb0 l), (7, .int .i64 l.length), (8, .int .i64 k)]) (fun k => [⟨1, 1, false, (z7k l k).map (AV.int .i64)⟩]) (fun env _ => [z0r 1 (env 3)]) 0 (by simp) ?_ ?_)
 · have e0 : z7k l 0 = [] := rfl
   (repeat' (first | (simp (disch := omega) only [push_cast, ↓zz, seval, pB, e0]) | (with_reducible first | refine And.intro ?_ ?_ | (first | refine z01 ?_ ?_ | refine z00 ?_ ?_) <;> intro hc <;> (try simp only [push_cast] at hc)) | omega | with_reducible intro _))
 intro k hk
 have hm := zwl l k
 have pM : z0h ((z7k l k).map (AV.int .i64)) = true := z3c .i64 _
 rcases Nat.lt_or_ge k l.length with hkl | hkl
 · have hs := zas l k
   generalize z7k l k = L at *
   refine W_T ?_
   cases hx : nth l k with
   | true =>
     rw [hx, if_pos rfl] at hs
     (repeat' (first | (simp (disch := omega) only [push_cast, ↓zz, seval, pB, hx]) | (with_reducible first | refine And.intro ?_ ?_ | (first | refine z01 ?_ ?_ | refine z00 ?_ ?_) <;> intro hc <;> (try simp only [push_cast] at hc)) | omega | with_reducible intro _))
     all_goals
       refine ⟨k + 1, ?_⟩
       (repeat' (first | (simp (disch := omega) only [push_cast, ↓zz, seval, hs, pM]) | (with_reducible first | refine And.intro ?_ ?_ | (first | refine z01 ?_ ?_ | refine z00 ?_ ?_) <;> intro hc <;> (try simp only [push_cast] at hc)) | omega | with_reducible intro _))
   | false =>
     rw [hx, if_neg (by simp)] at hs
     (repeat' (first | (simp (disch := omega) only [push_cast, ↓zz, seval, pB, hx]) | (with_reducible first | refine And.intro ?_ ?_ | (first | refine z01 ?_ ?_ | refine z00 ?_ ?_) <;> intro hc <;> (try simp only [push_cast] at hc)) | omega | with_reducible intro _))
     all_goals
       refine ⟨k + 1, ?_⟩
       (repeat' (first | (simp (disch := omega) only [push_cast, ↓zz, seval, hs, pM]) | (with_reducible first | refine And.intro ?_ ?_ | (first | refine z01 ?_ ?_ | refine z00 ?_ ?_) <;> intro hc <;> (try simp only [push_cast] at hc)) | omega | with_reducible intro _))
 · obtain rfl : k = l.length := by omega
   generalize z7k l l.length = L at *
   refine W_T ?_
   (repeat' (first | (simp (disch := omega) only [push_cast, ↓zz, seval, pB, pM]) | (with_reducible first | refine And.intro ?_ ?_ | (first | refine z01 ?_ ?_ | refine z00 ?_ ?_) <;> intro hc <;> (try simp only [push_cast] at hc)) | omega | with_reducible intro _))
   all_goals trace_state
theorem ze9 (d : Desc) : (z6t d).length = d.states.toNat := z58 _ _ _
theorem zms (d : Desc) : (goL d).length = d.states.toNat := z58 _ _ _
noncomputable def z5k (d : Desc) : List Int := z7k (z6t d) d.states.toNat
noncomputable def z97 (d : Desc) : List Int := z7k (goL d) d.states.toNat
theorem zat (d : Desc) (hf : z63 d) (h : z2s d = 0) : PC Try.prog 25 [z2r d] (.tup [z4k (z5k d), .int .i64 0]) := by
 have hw := z8f h
 obtain ⟨n, hn, hn1, hn2⟩ := hw.n
 have hC := z89 d hf
 rw [h] at hC
 have h1 := zg7 d hw
 have h2 := zkm (z6t d) (by rw [ze9]; omega)
 rw [ze9] at h2
 change PC _ _ _ (z4k (z5k d)) at h2
 have pR := z1a d.rules
 have pF := z1b d.finals
 have pB := z6j (z6t d)
 have pI : z0h ((z5k d).map (AV.int .i64)) = true := z3c .i64 _
 generalize z6t d = L at *
 generalize z5k d = M at *
 refine z0v zjl ?_
 unfold zb5
 (repeat' (first | (simp (disch := omega) only [push_cast, ↓zz, seval, pR, pF, pB, pI]) | (with_reducible first | refine And.intro ?_ ?_ | (first | refine z01 ?_ ?_ | refine z00 ?_ ?_) <;> intro hc <;> (try simp only [push_cast] at hc)) | ((with_reducible first | refine eK hC ?_ | refine eQ hC ?_ | refine eG hC ?_)) | ((with_reducible first | refine eK h1 ?_ | refine eQ h1 ?_ | refine eG h1 ?_)) | ((with_reducible first | refine eK h2 ?_ | refine eQ h2 ?_ | refine eG h2 ?_)) | ((with_reducible first | refine cK hC ?_ | refine cQ hC ?_ | refine cG hC ?_); (simp (disch := omega) only [push_cast, ↓zz, seval, pR, pF, pB, pI]); (fail_if_success (with_reducible change False))) | ((with_reducible first | refine cK h1 ?_ | refine cQ h1 ?_ | refine cG h1 ?_); (simp (disch := omega) only [push_cast, ↓zz, seval, pR, pF, pB, pI]); (fail_if_success (with_reducible change False))) | ((with_reducible first | refine cK h2 ?_ | refine cQ h2 ?_ | refine cG h2 ?_); (simp (disch := omega) only [push_cast, ↓zz, seval, pR, pF, pB, pI]); (fail_if_success (with_reducible change False))) | omega | with_reducible intro _))
 all_goals trace_state
theorem z98 (d : Desc) (hf : z63 d) (h : z2s d = 0) : PC Try.prog 26 [z2r d] (.tup [z4k (z97 d), .int .i64 0]) := by
 have hw := z8f h
 obtain ⟨n, hn, hn1, hn2⟩ := hw.n
 have hC := z89 d hf
 rw [h] at hC
 have h1 := ze8 d hw
 have h2 := zkm (goL d) (by rw [zms]; omega)
 rw [zms] at h2
 change PC _ _ _ (z4k (z97 d)) at h2
 have pR := z1a d.rules
 have pF := z1b d.finals
 have pB := z6j (goL d)
 have pI : z0h ((z97 d).map (AV.int .i64)) = true := z3c .i64 _
 generalize goL d = L at *
 generalize z97 d = M at *
 refine z0v zh9 ?_
 unfold z9m
 (repeat' (first | (simp (disch := omega) only [push_cast, ↓zz, seval, pR, pF, pB, pI]) | (with_reducible first | refine And.intro ?_ ?_ | (first | refine z01 ?_ ?_ | refine z00 ?_ ?_) <;> intro hc <;> (try simp only [push_cast] at hc)) | ((with_reducible first | refine eK hC ?_ | refine eQ hC ?_ | refine eG hC ?_)) | ((with_reducible first | refine eK h1 ?_ | refine eQ h1 ?_ | refine eG h1 ?_)) | ((with_reducible first | refine eK h2 ?_ | refine eQ h2 ?_ | refine eG h2 ?_)) | ((with_reducible first | refine cK hC ?_ | refine cQ hC ?_ | refine cG hC ?_); (simp (disch := omega) only [push_cast, ↓zz, seval, pR, pF, pB, pI]); (fail_if_success (with_reducible change False))) | ((with_reducible first | refine cK h1 ?_ | refine cQ h1 ?_ | refine cG h1 ?_); (simp (disch := omega) only [push_cast, ↓zz, seval, pR, pF, pB, pI]); (fail_if_success (with_reducible change False))) | ((with_reducible first | refine cK h2 ?_ | refine cQ h2 ?_ | refine cG h2 ?_); (simp (disch := omega) only [push_cast, ↓zz, seval, pR, pF, pB, pI]); (fail_if_success (with_reducible change False))) | omega | with_reducible intro _))
 all_goals trace_state
theorem za3 (l : List (List Span)) (h0 : l ≠ []) (hl : l.length ≤ 1000000000000) : z1f Try.prog 62 [z0d l] (Abs.hl []) fun y H' => y = .ref 0 2 0 l.length ∧ H' = Abs.hl [⟨1, 2, false, l.map z06⟩] := by
 refine z81 (b := 0) z1t rfl ?_
 unfold z1e
 have hne : (l.map z06).isEmpty = false := by
   cases l with
   | nil => exact absurd rfl h0
   | cons _ _ => rfl
 have hp := z07 l
 (repeat' (first | (simp (disch := omega) only [push_cast, ↓zz, seval, hne, hp]) | (with_reducible first | refine And.intro ?_ ?_ | (first | refine z01 ?_ ?_ | refine z00 ?_ ?_) <;> intro hc <;> (try simp only [push_cast] at hc)) | omega | with_reducible intro _))
 all_goals trace_state
theorem zbr (l : List Term) (h0 : l ≠ []) (hl : l.length ≤ 1000000000000) : z1f Try.prog 63 [z37 l] (Abs.hl []) fun y H' => y = .ref 0 2 0 l.length ∧ H' = Abs.hl [⟨6, 2, false, l.map z1s⟩] := by
 refine z81 (b := 0) z1z rfl ?_
 unfold z1h
 have hne : (l.map z1s).isEmpty = false := by
   cases l with
   | nil => exact absurd rfl h0
   | cons _ _ => rfl
 have hp := z0z l
 (repeat' (first | (simp (disch := omega) only [push_cast, ↓zz, seval, hne, hp]) | (with_reducible first | refine And.intro ?_ ?_ | (first | refine z01 ?_ ?_ | refine z00 ?_ ?_) <;> intro hc <;> (try simp only [push_cast] at hc)) | omega | with_reducible intro _))
 all_goals trace_state
theorem z08 : PC Try.prog 62 [z0d []] (z0d []) := by
 refine znx ?_ ?_
 · refine z0v z1t ?_
   unfold z1e
   (repeat' (first | (simp (disch := omega) only [push_cast, ↓zz, seval]) | (with_reducible first | refine And.intro ?_ ?_ | (first | refine z01 ?_ ?_ | refine z00 ?_ ?_) <;> intro hc <;> (try simp only [push_cast] at hc)) | omega | with_reducible intro _))
 · refine z0v z1t ?_
   unfold z1e
   (repeat' (first | (simp (disch := omega) only [push_cast, ↓zz, seval]) | (with_reducible first | refine And.intro ?_ ?_ | (first | refine z01 ?_ ?_ | refine z00 ?_ ?_) <;> intro hc <;> (try simp only [push_cast] at hc)) | omega | with_reducible intro _))
theorem z0c : PC Try.prog 63 [z37 []] (z37 []) := by
 refine znx ?_ ?_
 · refine z0v z1z ?_
   unfold z1h
   (repeat' (first | (simp (disch := omega) only [push_cast, ↓zz, seval]) | (with_reducible first | refine And.intro ?_ ?_ | (first | refine z01 ?_ ?_ | refine z00 ?_ ?_) <;> intro hc <;> (try simp only [push_cast] at hc)) | omega | with_reducible intro _))
 · refine z0v z1z ?_
   unfold z1h
   (repeat' (first | (simp (disch := omega) only [push_cast, ↓zz, seval]) | (with_reducible first | refine And.intro ?_ ?_ | (first | refine z01 ?_ ?_ | refine z00 ?_ ?_) <;> intro hc <;> (try simp only [push_cast] at hc)) | omega | with_reducible intro _))
theorem z6u {α β : Type} [Inhabited α] {l : List α} {f : α → β} {k : Nat} (h : k < l.length) : (l.map f).set k (f (nth l k)) = l.map f := by
 have e : (l.map f)[k]'(by simpa using h) = f (nth l k) := by simp [nth, List.getD, h]
 rw [← e, List.set_getElem_self]
theorem y0t (gs : List (List Span)) (out : List Term) (hgn : gs.length ≤ 1000000) (hgl : ∀ g ∈ gs, g.length ≤ 1000000) (hon : out.length ≤ 1000000) (hol : ∀ t ∈ out, t.parts.length ≤ 1000000) :
   PC Try.prog 46 [z0d gs, z37 out] (.tup [z0d gs, z37 out]) := by
 have pG := z07 gs
 have pT := z0z out
 refine z0v zqr ?_
 unfold zfl
 by_cases hg : gs = []
 · subst hg
   by_cases ho : out = []
   · subst ho
     (repeat' (first | (simp (disch := omega) only [push_cast, ↓zz, seval, pG, pT]) | (with_reducible first | refine And.intro ?_ ?_ | (first | refine z01 ?_ ?_ | refine z00 ?_ ?_) <;> intro hc <;> (try simp only [push_cast] at hc)) | ((with_reducible first | refine eK z08 ?_ | refine eQ z08 ?_ | refine eG z08 ?_)) | ((with_reducible first | refine eK z0c ?_ | refine eQ z0c ?_ | refine eG z0c ?_)) | ((with_reducible first | refine cK z08 ?_ | refine cQ z08 ?_ | refine cG z08 ?_); (simp (disch := omega) only [push_cast, ↓zz, seval, pG, pT]); (fail_if_success (with_reducible change False))) | ((with_reducible first | refine cK z0c ?_ | refine cQ z0c ?_ | refine cG z0c ?_); (simp (disch := omega) only [push_cast, ↓zz, seval, pG, pT]); (fail_if_success (with_reducible change False))) | omega | with_reducible intro _))
     refine z0n (z0p (fun (_ : Unit) => True) (fun _ => 0) (fun k => [(0, .lst 1 []), (1, .lst 6 []), (13, .int .i64 0), (14, .int .i64 0)]) (fun k => []) (fun env _ => []) () trivial ?_ ?_)
     · (repeat' (first | (simp (disch := omega) only [push_cast, ↓zz, seval, pG, pT]) | (with_reducible first | refine And.intro ?_ ?_ | (first | refine z01 ?_ ?_ | refine z00 ?_ ?_) <;> intro hc <;> (try simp only [push_cast] at hc)) | omega | with_reducible intro _))
     rintro ⟨⟩ _
     refine W_T ?_
     (repeat' (first | (simp (disch := omega) only [push_cast, ↓zz, seval, pG, pT]) | (with_reducible first | refine And.intro ?_ ?_ | (first | refine z01 ?_ ?_ | refine z00 ?_ ?_) <;> intro hc <;> (try simp only [push_cast] at hc)) | ((with_reducible first | refine eK z08 ?_ | refine eQ z08 ?_ | refine eG z08 ?_)) | ((with_reducible first | refine eK z0c ?_ | refine eQ z0c ?_ | refine eG z0c ?_)) | ((with_reducible first | refine cK z08 ?_ | refine cQ z08 ?_ | refine cG z08 ?_); (simp (disch := omega) only [push_cast, ↓zz, seval, pG, pT]); (fail_if_success (with_reducible change False))) | ((with_reducible first | refine cK z0c ?_ | refine cQ z0c ?_ | refine cG z0c ?_); (simp (disch := omega) only [push_cast, ↓zz, seval, pG, pT]); (fail_if_success (with_reducible change False))) | omega | with_reducible intro _))
     refine z0n (z0p (fun (_ : Unit) => True) (fun _ => 0) (fun k => [(0, .lst 1 []), (1, .lst 6 []), (27, .int .i64 0), (28, .int .i64 0)]) (fun k => []) (fun env _ => []) () trivial ?_ ?_)
     · (repeat' (first | (simp (disch := omega) only [push_cast, ↓zz, seval, pG, pT]) | (with_reducible first | refine And.intro ?_ ?_ | (first | refine z01 ?_ ?_ | refine z00 ?_ ?_) <;> intro hc <;> (try simp only [push_cast] at hc)) | omega | with_reducible intro _))
     rintro ⟨⟩ _
     refine W_T ?_
     (repeat' (first | (simp (disch := omega) only [push_cast, ↓zz, seval, pG, pT]) | (with_reducible first | refine And.intro ?_ ?_ | (first | refine z01 ?_ ?_ | refine z00 ?_ ?_) <;> intro hc <;> (try simp only [push_cast] at hc)) | ((with_reducible first | refine eK z08 ?_ | refine eQ z08 ?_ | refine eG z08 ?_)) | ((with_reducible first | refine eK z0c ?_ | refine eQ z0c ?_ | refine eG z0c ?_)) | ((with_reducible first | refine cK z08 ?_ | refine cQ z08 ?_ | refine cG z08 ?_); (simp (disch := omega) only [push_cast, ↓zz, seval, pG, pT]); (fail_if_success (with_reducible change False))) | ((with_reducible first | refine cK z0c ?_ | refine cQ z0c ?_ | refine cG z0c ?_); (simp (disch := omega) only [push_cast, ↓zz, seval, pG, pT]); (fail_if_success (with_reducible change False))) | omega | with_reducible intro _))
     all_goals (try simp only [z0d, z37, List.map_nil])
     all_goals (repeat' (first | (simp (disch := omega) only [push_cast, ↓zz, seval, z1q]) | omega | (with_reducible refine And.intro ?_ ?_)))
   · skip
     (repeat' (first | (simp (disch := omega) only [push_cast, ↓zz, seval, pG, pT]) | (with_reducible first | refine And.intro ?_ ?_ | (first | refine z01 ?_ ?_ | refine z00 ?_ ?_) <;> intro hc <;> (try simp only [push_cast] at hc)) | ((with_reducible first | refine eK z08 ?_ | refine eQ z08 ?_ | refine eG z08 ?_)) | ((with_reducible first | refine cK z08 ?_ | refine cQ z08 ?_ | refine cG z08 ?_); (simp (disch := omega) only [push_cast, ↓zz, seval, pG, pT]); (fail_if_success (with_reducible change False))) | omega | with_reducible intro _))
     (refine zah [] (zbr out ho (by omega)) (by decide) (by simp) (by (simp (disch := omega) only [push_cast, ↓zz, seval])) (by (simp (disch := omega) only [push_cast, ↓zz, seval])) (by (simp (disch := omega) only [push_cast, ↓zz, seval])) (by (simp (disch := omega) only [push_cast, ↓zz, seval, List.mem_cons, List.not_mem_nil, or_false, forall_eq_or_imp, forall_eq, List.forall_mem_nil])) ?_)
     rintro y H' ⟨rfl, rfl⟩
     refine ⟨_, rfl, by simp, ?_⟩
     (repeat' (first | (simp (disch := omega) only [push_cast, ↓zz, seval, pG, pT]) | (with_reducible first | refine And.intro ?_ ?_ | (first | refine z01 ?_ ?_ | refine z00 ?_ ?_) <;> intro hc <;> (try simp only [push_cast] at hc)) | ((with_reducible first | refine eK z08 ?_ | refine eQ z08 ?_ | refine eG z08 ?_)) | ((with_reducible first | refine cK z08 ?_ | refine cQ z08 ?_ | refine cG z08 ?_); (simp (disch := omega) only [push_cast, ↓zz, seval, pG, pT]); (fail_if_success (with_reducible change False))) | omega | with_reducible intro _))
     refine z0n (z0p (fun (_ : Unit) => True) (fun _ => 0) (fun k => [(0, .lst 1 []), (1, .ref 0 1 0 out.length), (13, .int .i64 0), (14, .int .i64 0)]) (fun k => [⟨6, 1, false, out.map z1s⟩]) (fun env _ => [z0r 6 (env 1)]) () trivial ?_ ?_)
     · (repeat' (first | (simp (disch := omega) only [push_cast, ↓zz, seval, pG, pT]) | (with_reducible first | refine And.intro ?_ ?_ | (first | refine z01 ?_ ?_ | refine z00 ?_ ?_) <;> intro hc <;> (try simp only [push_cast] at hc)) | omega | with_reducible intro _))
     rintro ⟨⟩ _
     refine W_T ?_
     (repeat' (first | (simp (disch := omega) only [push_cast, ↓zz, seval, pG, pT]) | (with_reducible first | refine And.intro ?_ ?_ | (first | refine z01 ?_ ?_ | refine z00 ?_ ?_) <;> intro hc <;> (try simp only [push_cast] at hc)) | ((with_reducible first | refine eK z08 ?_ | refine eQ z08 ?_ | refine eG z08 ?_)) | ((with_reducible first | refine cK z08 ?_ | refine cQ z08 ?_ | refine cG z08 ?_); (simp (disch := omega) only [push_cast, ↓zz, seval, pG, pT]); (fail_if_success (with_reducible change False))) | omega | with_reducible intro _))
     refine z0n (z0p (fun (k : Nat) => k ≤ out.length) (fun k => out.length - k) (fun k => [(0, .lst 1 []), (1, .ref 0 1 0 out.length), (27, .int .i64 out.length), (28, .int .i64 k)]) (fun k => [⟨6, 1, false, out.map z1s⟩]) (fun env _ => [z0r 6 (env 1)]) 0 (by simp) ?_ ?_)
     · (repeat' (first | (simp (disch := omega) only [push_cast, ↓zz, seval, pG, pT]) | (with_reducible first | refine And.intro ?_ ?_ | (first | refine z01 ?_ ?_ | refine z00 ?_ ?_) <;> intro hc <;> (try simp only [push_cast] at hc)) | omega | with_reducible intro _))
     intro k hk
     rcases Nat.lt_or_ge k out.length with hkl | hkl
     · have hm := hol _ (z1o hkl)
       have hset : (out.map z1s).set k (z1s (nth out k)) = out.map z1s := z6u hkl
       generalize hne : nth out k = x at *
       have hC := zdm x.parts (by omega)
       have hpx := z68 x.parts
       refine W_T ?_
       (repeat' (first | (simp (disch := omega) only [push_cast, ↓zz, seval, pG, pT, hne, hset, hpx]) | (with_reducible first | refine And.intro ?_ ?_ | (first | refine z01 ?_ ?_ | refine z00 ?_ ?_) <;> intro hc <;> (try simp only [push_cast] at hc)) | ((with_reducible first | refine eK hC ?_ | refine eQ hC ?_ | refine eG hC ?_)) | ((with_reducible first | refine cK hC ?_ | refine cQ hC ?_ | refine cG hC ?_); (simp (disch := omega) only [push_cast, ↓zz, seval, pG, pT, hne, hset, hpx]); (fail_if_success (with_reducible change False))) | omega | with_reducible intro _))
       all_goals
         refine ⟨k + 1, ?_⟩
         (repeat' (first | (simp (disch := omega) only [push_cast, ↓zz, seval, pG, pT]) | (with_reducible first | refine And.intro ?_ ?_ | (first | refine z01 ?_ ?_ | refine z00 ?_ ?_) <;> intro hc <;> (try simp only [push_cast] at hc)) | omega | with_reducible intro _))
     obtain rfl : k = out.length := by omega
     refine W_T ?_
     (repeat' (first | (simp (disch := omega) only [push_cast, ↓zz, seval, pG, pT]) | (with_reducible first | refine And.intro ?_ ?_ | (first | refine z01 ?_ ?_ | refine z00 ?_ ?_) <;> intro hc <;> (try simp only [push_cast] at hc)) | ((with_reducible first | refine eK z08 ?_ | refine eQ z08 ?_ | refine eG z08 ?_)) | ((with_reducible first | refine cK z08 ?_ | refine cQ z08 ?_ | refine cG z08 ?_); (simp (disch := omega) only [push_cast, ↓zz, seval, pG, pT]); (fail_if_success (with_reducible change False))) | omega | with_reducible intro _))
     all_goals (try simp only [z0d, z37, List.map_nil])
     all_goals (repeat' (first | (simp (disch := omega) only [push_cast, ↓zz, seval, z1q]) | omega | (with_reducible refine And.intro ?_ ?_)))
 · by_cases ho : out = []
   · subst ho
     (repeat' (first | (simp (disch := omega) only [push_cast, ↓zz, seval, pG, pT]) | (with_reducible first | refine And.intro ?_ ?_ | (first | refine z01 ?_ ?_ | refine z00 ?_ ?_) <;> intro hc <;> (try simp only [push_cast] at hc)) | ((with_reducible first | refine eK z0c ?_ | refine eQ z0c ?_ | refine eG z0c ?_)) | ((with_reducible first | refine cK z0c ?_ | refine cQ z0c ?_ | refine cG z0c ?_); (simp (disch := omega) only [push_cast, ↓zz, seval, pG, pT]); (fail_if_success (with_reducible change False))) | omega | with_reducible intro _))
     (refine zah [] (za3 gs hg (by omega)) (by decide) (by simp) (by (simp (disch := omega) only [push_cast, ↓zz, seval])) (by (simp (disch := omega) only [push_cast, ↓zz, seval])) (by (simp (disch := omega) only [push_cast, ↓zz, seval])) (by (simp (disch := omega) only [push_cast, ↓zz, seval, List.mem_cons, List.not_mem_nil, or_false, forall_eq_or_imp, forall_eq, List.forall_mem_nil])) ?_)
     rintro y H' ⟨rfl, rfl⟩
     refine ⟨_, rfl, by simp, ?_⟩
     (repeat' (first | (simp (disch := omega) only [push_cast, ↓zz, seval, pG, pT]) | (with_reducible first | refine And.intro ?_ ?_ | (first | refine z01 ?_ ?_ | refine z00 ?_ ?_) <;> intro hc <;> (try simp only [push_cast] at hc)) | ((with_reducible first | refine eK z0c ?_ | refine eQ z0c ?_ | refine eG z0c ?_)) | ((with_reducible first | refine cK z0c ?_ | refine cQ z0c ?_ | refine cG z0c ?_); (simp (disch := omega) only [push_cast, ↓zz, seval, pG, pT]); (fail_if_success (with_reducible change False))) | omega | with_reducible intro _))
     refine z0n (z0p (fun (k : Nat) => k ≤ gs.length) (fun k => gs.length - k) (fun k => [(0, .ref 0 1 0 gs.length), (1, .lst 6 []), (13, .int .i64 gs.length), (14, .int .i64 k)]) (fun k => [⟨1, 1, false, gs.map z06⟩]) (fun env _ => [z0r 1 (env 0)]) 0 (by simp) ?_ ?_)
     · (repeat' (first | (simp (disch := omega) only [push_cast, ↓zz, seval, pG, pT]) | (with_reducible first | refine And.intro ?_ ?_ | (first | refine z01 ?_ ?_ | refine z00 ?_ ?_) <;> intro hc <;> (try simp only [push_cast] at hc)) | omega | with_reducible intro _))
     intro k hk
     rcases Nat.lt_or_ge k gs.length with hkl | hkl
     · have hm := hgl _ (z1o hkl)
       have hset : (gs.map z06).set k (z06 (nth gs k)) = gs.map z06 := z6u hkl
       generalize hne : nth gs k = x at *
       have hC := ze7 x (by omega)
       have hpx := z3e x
       refine W_T ?_
       (repeat' (first | (simp (disch := omega) only [push_cast, ↓zz, seval, pG, pT, hne, hset, hpx]) | (with_reducible first | refine And.intro ?_ ?_ | (first | refine z01 ?_ ?_ | refine z00 ?_ ?_) <;> intro hc <;> (try simp only [push_cast] at hc)) | ((with_reducible first | refine eK hC ?_ | refine eQ hC ?_ | refine eG hC ?_)) | ((with_reducible first | refine cK hC ?_ | refine cQ hC ?_ | refine cG hC ?_); (simp (disch := omega) only [push_cast, ↓zz, seval, pG, pT, hne, hset, hpx]); (fail_if_success (with_reducible change False))) | omega | with_reducible intro _))
       all_goals
         refine ⟨k + 1, ?_⟩
         (repeat' (first | (simp (disch := omega) only [push_cast, ↓zz, seval, pG, pT]) | (with_reducible first | refine And.intro ?_ ?_ | (first | refine z01 ?_ ?_ | refine z00 ?_ ?_) <;> intro hc <;> (try simp only [push_cast] at hc)) | omega | with_reducible intro _))
     obtain rfl : k = gs.length := by omega
     refine W_T ?_
     (repeat' (first | (simp (disch := omega) only [push_cast, ↓zz, seval, pG, pT]) | (with_reducible first | refine And.intro ?_ ?_ | (first | refine z01 ?_ ?_ | refine z00 ?_ ?_) <;> intro hc <;> (try simp only [push_cast] at hc)) | ((with_reducible first | refine eK z0c ?_ | refine eQ z0c ?_ | refine eG z0c ?_)) | ((with_reducible first | refine cK z0c ?_ | refine cQ z0c ?_ | refine cG z0c ?_); (simp (disch := omega) only [push_cast, ↓zz, seval, pG, pT]); (fail_if_success (with_reducible change False))) | omega | with_reducible intro _))
     refine z0n (z0p (fun (_ : Unit) => True) (fun _ => 0) (fun k => [(0, .ref 0 1 0 gs.length), (1, .lst 6 []), (27, .int .i64 0), (28, .int .i64 0)]) (fun k => [⟨1, 1, false, gs.map z06⟩]) (fun env _ => [z0r 1 (env 0)]) () trivial ?_ ?_)
     · (repeat' (first | (simp (disch := omega) only [push_cast, ↓zz, seval, pG, pT]) | (with_reducible first | refine And.intro ?_ ?_ | (first | refine z01 ?_ ?_ | refine z00 ?_ ?_) <;> intro hc <;> (try simp only [push_cast] at hc)) | omega | with_reducible intro _))
     rintro ⟨⟩ _
     refine W_T ?_
     (repeat' (first | (simp (disch := omega) only [push_cast, ↓zz, seval, pG, pT]) | (with_reducible first | refine And.intro ?_ ?_ | (first | refine z01 ?_ ?_ | refine z00 ?_ ?_) <;> intro hc <;> (try simp only [push_cast] at hc)) | ((with_reducible first | refine eK z0c ?_ | refine eQ z0c ?_ | refine eG z0c ?_)) | ((with_reducible first | refine cK z0c ?_ | refine cQ z0c ?_ | refine cG z0c ?_); (simp (disch := omega) only [push_cast, ↓zz, seval, pG, pT]); (fail_if_success (with_reducible change False))) | omega | with_reducible intro _))
     all_goals (try simp only [z0d, z37, List.map_nil])
     all_goals (repeat' (first | (simp (disch := omega) only [push_cast, ↓zz, seval, z1q]) | omega | (with_reducible refine And.intro ?_ ?_)))
   · skip
     (repeat' (first | (simp (disch := omega) only [push_cast, ↓zz, seval, pG, pT]) | (with_reducible first | refine And.intro ?_ ?_ | (first | refine z01 ?_ ?_ | refine z00 ?_ ?_) <;> intro hc <;> (try simp only [push_cast] at hc)) | omega | with_reducible intro _))
     (refine zah [] (za3 gs hg (by omega)) (by decide) (by simp) (by (simp (disch := omega) only [push_cast, ↓zz, seval])) (by (simp (disch := omega) only [push_cast, ↓zz, seval])) (by (simp (disch := omega) only [push_cast, ↓zz, seval])) (by (simp (disch := omega) only [push_cast, ↓zz, seval, List.mem_cons, List.not_mem_nil, or_false, forall_eq_or_imp, forall_eq, List.forall_mem_nil])) ?_)
     rintro y H' ⟨rfl, rfl⟩
     refine ⟨_, rfl, by simp, ?_⟩
     (repeat' (first | (simp (disch := omega) only [push_cast, ↓zz, seval, pG, pT]) | (with_reducible first | refine And.intro ?_ ?_ | (first | refine z01 ?_ ?_ | refine z00 ?_ ?_) <;> intro hc <;> (try simp only [push_cast] at hc)) | omega | with_reducible intro _))
     (refine zah [] (zbr out ho (by omega)) (by decide) (by simp) (by (simp (disch := omega) only [push_cast, ↓zz, seval])) (by (simp (disch := omega) only [push_cast, ↓zz, seval])) (by (simp (disch := omega) only [push_cast, ↓zz, seval])) (by (simp (disch := omega) only [push_cast, ↓zz, seval, List.mem_cons, List.not_mem_nil, or_false, forall_eq_or_imp, forall_eq, List.forall_mem_nil])) ?_)
     rintro y H' ⟨rfl, rfl⟩
     refine ⟨_, rfl, by simp, ?_⟩
     (repeat' (first | (simp (disch := omega) only [push_cast, ↓zz, seval, pG, pT]) | (with_reducible first | refine And.intro ?_ ?_ | (first | refine z01 ?_ ?_ | refine z00 ?_ ?_) <;> intro hc <;> (try simp only [push_cast] at hc)) | omega | with_reducible intro _))
     refine z0n (z0p (fun (k : Nat) => k ≤ gs.length) (fun k => gs.length - k) (fun k => [(0, .ref 0 1 0 gs.length), (1, .ref 1 1 0 out.length), (13, .int .i64 gs.length), (14, .int .i64 k)]) (fun k => [⟨1, 1, false, gs.map z06⟩, ⟨6, 1, false, out.map z1s⟩]) (fun env _ => [z0r 1 (env 0), z0r 6 (env 1)]) 0 (by simp) ?_ ?_)
     · (repeat' (first | (simp (disch := omega) only [push_cast, ↓zz, seval, pG, pT]) | (with_reducible first | refine And.intro ?_ ?_ | (first | refine z01 ?_ ?_ | refine z00 ?_ ?_) <;> intro hc <;> (try simp only [push_cast] at hc)) | omega | with_reducible intro _))
     intro k hk
     rcases Nat.lt_or_ge k gs.length with hkl | hkl
     · have hm := hgl _ (z1o hkl)
       have hset : (gs.map z06).set k (z06 (nth gs k)) = gs.map z06 := z6u hkl
       generalize hne : nth gs k = x at *
       have hC := ze7 x (by omega)
       have hpx := z3e x
       refine W_T ?_
       (repeat' (first | (simp (disch := omega) only [push_cast, ↓zz, seval, pG, pT, hne, hset, hpx]) | (with_reducible first | refine And.intro ?_ ?_ | (first | refine z01 ?_ ?_ | refine z00 ?_ ?_) <;> intro hc <;> (try simp only [push_cast] at hc)) | ((with_reducible first | refine eK hC ?_ | refine eQ hC ?_ | refine eG hC ?_)) | ((with_reducible first | refine cK hC ?_ | refine cQ hC ?_ | refine cG hC ?_); (simp (disch := omega) only [push_cast, ↓zz, seval, pG, pT, hne, hset, hpx]); (fail_if_success (with_reducible change False))) | omega | with_reducible intro _))
       all_goals
         refine ⟨k + 1, ?_⟩
         (repeat' (first | (simp (disch := omega) only [push_cast, ↓zz, seval, pG, pT]) | (with_reducible first | refine And.intro ?_ ?_ | (first | refine z01 ?_ ?_ | refine z00 ?_ ?_) <;> intro hc <;> (try simp only [push_cast] at hc)) | omega | with_reducible intro _))
     obtain rfl : k = gs.length := by omega
     refine W_T ?_
     (repeat' (first | (simp (disch := omega) only [push_cast, ↓zz, seval, pG, pT]) | (with_reducible first | refine And.intro ?_ ?_ | (first | refine z01 ?_ ?_ | refine z00 ?_ ?_) <;> intro hc <;> (try simp only [push_cast] at hc)) | omega | with_reducible intro _))
     refine z0n (z0p (fun (k : Nat) => k ≤ out.length) (fun k => out.length - k) (fun k => [(0, .ref 0 1 0 gs.length), (1, .ref 1 1 0 out.length), (27, .int .i64 out.length), (28, .int .i64 k)]) (fun k => [⟨1, 1, false, gs.map z06⟩, ⟨6, 1, false, out.map z1s⟩]) (fun env _ => [z0r 1 (env 0), z0r 6 (env 1)]) 0 (by simp) ?_ ?_)
     · (repeat' (first | (simp (disch := omega) only [push_cast, ↓zz, seval, pG, pT]) | (with_reducible first | refine And.intro ?_ ?_ | (first | refine z01 ?_ ?_ | refine z00 ?_ ?_) <;> intro hc <;> (try simp only [push_cast] at hc)) | omega | with_reducible intro _))
     intro k hk
     rcases Nat.lt_or_ge k out.length with hkl | hkl
     · have hm := hol _ (z1o hkl)
       have hset : (out.map z1s).set k (z1s (nth out k)) = out.map z1s := z6u hkl
       generalize hne : nth out k = x at *
       have hC := zdm x.parts (by omega)
       have hpx := z68 x.parts
       refine W_T ?_
       (repeat' (first | (simp (disch := omega) only [push_cast, ↓zz, seval, pG, pT, hne, hset, hpx]) | (with_reducible first | refine And.intro ?_ ?_ | (first | refine z01 ?_ ?_ | refine z00 ?_ ?_) <;> intro hc <;> (try simp only [push_cast] at hc)) | ((with_reducible first | refine eK hC ?_ | refine eQ hC ?_ | refine eG hC ?_)) | ((with_reducible first | refine cK hC ?_ | refine cQ hC ?_ | refine cG hC ?_); (simp (disch := omega) only [push_cast, ↓zz, seval, pG, pT, hne, hset, hpx]); (fail_if_success (with_reducible change False))) | omega | with_reducible intro _))
       all_goals
         refine ⟨k + 1, ?_⟩
         (repeat' (first | (simp (disch := omega) only [push_cast, ↓zz, seval, pG, pT]) | (with_reducible first | refine And.intro ?_ ?_ | (first | refine z01 ?_ ?_ | refine z00 ?_ ?_) <;> intro hc <;> (try simp only [push_cast] at hc)) | omega | with_reducible intro _))
     obtain rfl : k = out.length := by omega
     refine W_T ?_
     (repeat' (first | (simp (disch := omega) only [push_cast, ↓zz, seval, pG, pT]) | (with_reducible first | refine And.intro ?_ ?_ | (first | refine z01 ?_ ?_ | refine z00 ?_ ?_) <;> intro hc <;> (try simp only [push_cast] at hc)) | omega | with_reducible intro _))
     all_goals (try simp only [z0d, z37, List.map_nil])
     all_goals (repeat' (first | (simp (disch := omega) only [push_cast, ↓zz, seval, z1q]) | omega | (with_reducible refine And.intro ?_ ?_)))
     all_goals trace_state
theorem za4 {α : Type} {p : α → Bool} : ∀ {l : List α} {i : Nat}, (∀ x ∈ l, p x = true) → z71 p l i = none
 | [], _, _ => rfl
 | x :: l, i, h => by rw [z71, if_pos (h x (by simp)), za4 fun y hy => h y (by simp [hy])]
theorem z6v {d : Desc} (h1 : ze3 d = true) (h2 : ∀ r ∈ d.rules, z6g d r = true) (h3 : ∀ f ∈ d.finals, z4h d f = true) (h4 : ¬ cycP d.rules d.states.toNat) : z5j d = (0, 0) ∧ z2s d = 0 := by
 have e : z5j d = (0, 0) := by
   rw [z5j, if_neg (by simp [h1]), za4 h2]
   simp only
   rw [za4 h3]
   simp only
   rw [if_neg h4]
 exact ⟨e, by rw [z2s, e]; rfl⟩
theorem y0u (s : Int) : Full (domL s) ∧ ∀ v, memL (domL s) v → 0 ≤ v ∧ v ≤ 1114111 := by
 refine ⟨fun t ht => ?_, fun v hv => y0s (zi0.1 hv)⟩
 unfold domL at ht
 split at ht
 · simp at ht; subst ht; simp
 · split at ht
   · simp at ht; rcases ht with rfl | rfl <;> simp
   · cases ht
def z5v (a b : Int) : Desc := ⟨a, b, 1, 0, [], []⟩
theorem zmt {a b : Int} (ha : a = 1 ∨ a = 2) (hb : b = 1 ∨ b = 2) : z5j (z5v a b) = (0, 0) ∧ z2s (z5v a b) = 0 := by
 refine z6v (by rcases ha with rfl | rfl <;> rcases hb with rfl | rfl <;> decide) (fun r hr => by cases hr) (fun f hf => by cases hf) ?_
 rintro ⟨C, hC, j, hj⟩
 obtain ⟨_, r, hr, _⟩ := hC j hj
 cases hr
noncomputable def z2x (d : Desc) (i : Nat) : Bool := z3b (fwdE d) [d.start] i && z3b (bwdE d) (endE d) i
def cntB (u : Nat → Bool) (k : Nat) : Nat := ((List.range k).filter u).length
def numB (u : Nat → Bool) (i : Nat) : Int := if u i = true then (cntB u i : Int) else -1
def z72 (u : Nat → Bool) (l : List Rule) : List Rule := (l.filter fun r => u r.from_.toNat && u r.to_.toNat).map fun r => ⟨numB u r.from_.toNat, numB u r.to_.toNat, r.guards, r.eat, r.out⟩
def z7l (u : Nat → Bool) (l : List z5m) : List z5m := (l.filter fun f => u f.from_.toNat).map fun f => ⟨numB u f.from_.toNat, f.guards, f.out⟩
noncomputable def z54 (d : Desc) : Desc :=
 if z3b (bwdE d) (endE d) d.start.toNat = false then z5v d.in_ d.out
 else ⟨d.in_, d.out, cntB (z2x d) d.states.toNat, numB (z2x d) d.start.toNat, z72 (z2x d) d.rules, z7l (z2x d) d.finals⟩
theorem z4x (u : Nat → Bool) (k : Nat) : cntB u (k + 1) = if u k = true then cntB u k + 1 else cntB u k := by
 simp only [cntB, List.range_succ, List.filter_append, List.length_append, List.filter_cons, List.filter_nil]
 split <;> simp_all
theorem zea (u : Nat → Bool) (k : Nat) : cntB u k ≤ k := by
 have := List.length_filter_le u (List.range k)
 simpa [cntB] using this
def numK (u : Nat → Bool) (k i : Nat) : Int := if i < k then numB u i else 0
theorem zwm (n : Nat) (u : Nat → Bool) : famI n (numK u 0) = List.replicate n (.int .i64 0) := by
 refine List.ext_getElem (by simp [famI]) fun i h1 h2 => ?_
 simp [famI, numK]
theorem y0v (n : Nat) (u : Nat → Bool) : famI n (numK u n) = famI n (numB u) := by
 rw [famI, famI]
 refine List.map_congr_left fun i hi => ?_
 have : i < n := by simpa using hi
 simp [numK, this]
theorem zi1 {n k : Nat} (h : k < n) (u : Nat → Bool) {x : Int} (hx : numB u k = x) : (famI n (numK u k)).set k (.int .i64 x) = famI n (numK u (k + 1)) := by
 rw [zc5 h, famI, famI]
 refine List.map_congr_left fun i _ => ?_
 simp only [numK]
 by_cases e : i = k
 · subst e; simp [hx]
 · rw [if_neg e]
   by_cases e2 : i < k
   · rw [if_pos e2, if_pos (by omega)]
   · rw [if_neg e2, if_neg (by omega)]
theorem zs7 (u : Nat → Bool) {l : List Rule} {k : Nat} (h : k < l.length) : z72 u (l.take (k + 1)) = if (u (nth l k).from_.toNat && u (nth l k).to_.toNat) = true then z72 u (l.take k) ++ [⟨numB u (nth l k).from_.toNat, numB u (nth l k).to_.toNat, (nth l k).guards, (nth l k).eat, (nth l k).out⟩] else z72 u (l.take k) := by
 rw [take_at h]
 simp only [z72, List.filter_append, List.map_append, List.filter_cons, List.filter_nil]
 split <;> simp_all
theorem zs8 (u : Nat → Bool) {l : List z5m} {k : Nat} (h : k < l.length) : z7l u (l.take (k + 1)) = if u (nth l k).from_.toNat = true then z7l u (l.take k) ++ [⟨numB u (nth l k).from_.toNat, (nth l k).guards, (nth l k).out⟩] else z7l u (l.take k) := by
 rw [take_at h]
 simp only [z7l, List.filter_append, List.map_append, List.filter_cons, List.filter_nil]
 split <;> simp_all
theorem zkn (u : Nat → Bool) (l : List Rule) : (z72 u l).length ≤ l.length := by simpa [z72] using List.length_filter_le _ l
theorem zko (u : Nat → Bool) (l : List z5m) : (z7l u l).length ≤ l.length := by simpa [z7l] using List.length_filter_le _ l
theorem z40 {u : Nat → Bool} {i : Nat} (h : u i = true) : numB u i = cntB u i := if_pos h
theorem zeb {u : Nat → Bool} {i : Nat} (h : u i = false) : numB u i = -1 := if_neg (by simp [h])
theorem z5a {n : Nat} {F : List Int} {E : List (Int × Int)} {i : Nat} (h : i < n) : nth (z3l n F E) i = z3b E F i := by simp [nth, z3l, List.getD, h]
theorem zkp (n : Nat) (f : Nat → Int) : z0h (famI n f) = true := z2q.2 fun x hx => by
 obtain ⟨i, _, rfl⟩ := List.mem_map.1 hx
 rfl
theorem zpe {d : Desc} {gs : List (List Span)} {out : List Term} (hg : z4g d.in_ gs = true) (hw : z5i d out gs = true) : PC Try.prog 46 [z0d gs, z37 out] (.tup [z0d gs, z37 out]) := by
 obtain ⟨g1, g2⟩ := z5t hg
 obtain ⟨w1, w2⟩ := z5u hw
 exact y0t gs out (by omega) (fun g h => by have := g2 g h; omega) (by omega) (fun t h => by have := w2 t h; omega)
theorem y0w {d : Desc} {r : Rule} (h : z6g d r = true) : PC Try.prog 46 [z0d r.guards, z37 r.out] (.tup [z0d r.guards, z37 r.out]) := by
 simp only [z6g, Bool.and_eq_true] at h
 exact zpe h.2.2.1 h.2.2.2.2
theorem zwn {d : Desc} {f : z5m} (h : z4h d f = true) : PC Try.prog 46 [z0d f.guards, z37 f.out] (.tup [z0d f.guards, z37 f.out]) := by
 simp only [z4h, Bool.and_eq_true] at h
 exact zpe h.2.1 h.2.2
abbrev zpf : AV := .agg [.int .i64 0, .int .i64 0, .int .i64 0, .int .i64 0, .nilS, .nilS]
theorem za5 (d : Desc) (hf : z63 d) (h : z2s d = 0) : PC Try.prog 24 [z2r d] (.tup [z2r (z54 d), .int .i64 0]) := by
 have hw := z8f h
 obtain ⟨_, hrules, hfinals⟩ := z59 h
 obtain ⟨n, hn, hn1, hn2⟩ := hw.n
 have hC := z89 d hf
 rw [h] at hC
 have h1 := zg7 d hw
 have h2 := ze8 d hw
 have hE : PC Try.prog 15 [.int .i64 d.in_, .int .i64 d.out] (z2r (z5v d.in_ d.out)) := zs5 d.in_ d.out
 have hst := hw.start
 have hrl := hw.rl
 have hfl := hw.fl
 obtain ⟨s, hs⟩ : ∃ s : Nat, d.start = s := ⟨d.start.toNat, by omega⟩
 have hsn : s < n := by omega
 have pR := z1a d.rules
 have pF := z1b d.finals
 have cL : z6t d = z3l n [d.start] (fwdE d) := by rw [z6t, hn]; rfl
 have gL : goL d = z3l n (endE d) (bwdE d) := by rw [goL, hn]; rfl
 have l1 : (z6t d).length = n := by rw [cL, z58]
 have l2 : (goL d).length = n := by rw [gL, z58]
 have a1 : ∀ i, i < n → nth (z6t d) i = z3b (fwdE d) [d.start] i := fun i hi => by rw [cL]; exact z5a hi
 have a2 : ∀ i, i < n → nth (goL d) i = z3b (bwdE d) (endE d) i := fun i hi => by rw [gL]; exact z5a hi
 have a3 := a2 s hsn
 have pC := z6j (z6t d)
 have pG := z6j (goL d)
 have hu : ∀ i, i < n → z2x d i = (nth (z6t d) i && nth (goL d) i) := fun i hi => by rw [a1 i hi, a2 i hi]; rfl
 have hus : z3b (bwdE d) (endE d) s = true → z2x d s = true := fun hb => by
   have : Reach (fwdE d) [d.start] (s : Int) := .base (by simp [hs])
   simp [z2x, hb, z3t.2 this]
 have hst2 : d.start.toNat = s := by omega
 have hsT : d.states.toNat = n := by omega
 unfold z54
 rw [hst2, hsT]
 generalize z6t d = CL at *
 generalize goL d = GL at *
 generalize hu0 : z2x d = u at *
 refine z0v zd4 ?_
 unfold z90
 cases hb : z3b (bwdE d) (endE d) s with
 | false =>
   rw [hb] at a3
   rw [if_pos rfl]
   generalize z5v d.in_ d.out = ev at *
   (repeat' (first | (simp (disch := omega) only [push_cast, ↓zz, seval, pR, pF, pC, pG, hs, hn, a3]) | (with_reducible first | refine And.intro ?_ ?_ | (first | refine z01 ?_ ?_ | refine z00 ?_ ?_) <;> intro hc <;> (try simp only [push_cast] at hc)) | ((with_reducible first | refine eK hC ?_ | refine eQ hC ?_ | refine eG hC ?_)) | ((with_reducible first | refine eK h1 ?_ | refine eQ h1 ?_ | refine eG h1 ?_)) | ((with_reducible first | refine eK h2 ?_ | refine eQ h2 ?_ | refine eG h2 ?_)) | ((with_reducible first | refine eK hE ?_ | refine eQ hE ?_ | refine eG hE ?_)) | ((with_reducible first | refine cK hC ?_ | refine cQ hC ?_ | refine cG hC ?_); (simp (disch := omega) only [push_cast, ↓zz, seval, pR, pF, pC, pG, hs, hn, a3]); (fail_if_success (with_reducible change False))) | ((with_reducible first | refine cK h1 ?_ | refine cQ h1 ?_ | refine cG h1 ?_); (simp (disch := omega) only [push_cast, ↓zz, seval, pR, pF, pC, pG, hs, hn, a3]); (fail_if_success (with_reducible change False))) | ((with_reducible first | refine cK h2 ?_ | refine cQ h2 ?_ | refine cG h2 ?_); (simp (disch := omega) only [push_cast, ↓zz, seval, pR, pF, pC, pG, hs, hn, a3]); (fail_if_success (with_reducible change False))) | ((with_reducible first | refine cK hE ?_ | refine cQ hE ?_ | refine cG hE ?_); (simp (disch := omega) only [push_cast, ↓zz, seval, pR, pF, pC, pG, hs, hn, a3]); (fail_if_success (with_reducible change False))) | omega | with_reducible intro _))
 | true =>
   rw [hb] at a3
   rw [if_neg (by simp)]
   have husd := hus hb
   (repeat' (first | (simp (disch := omega) only [push_cast, ↓zz, seval, pR, pF, pC, pG, hs, hn, a3]) | (with_reducible first | refine And.intro ?_ ?_ | (first | refine z01 ?_ ?_ | refine z00 ?_ ?_) <;> intro hc <;> (try simp only [push_cast] at hc)) | ((with_reducible first | refine eK hC ?_ | refine eQ hC ?_ | refine eG hC ?_)) | ((with_reducible first | refine eK h1 ?_ | refine eQ h1 ?_ | refine eG h1 ?_)) | ((with_reducible first | refine eK h2 ?_ | refine eQ h2 ?_ | refine eG h2 ?_)) | ((with_reducible first | refine eK hE ?_ | refine eQ hE ?_ | refine eG hE ?_)) | ((with_reducible first | refine cK hC ?_ | refine cQ hC ?_ | refine cG hC ?_); (simp (disch := omega) only [push_cast, ↓zz, seval, pR, pF, pC, pG, hs, hn, a3]); (fail_if_success (with_reducible change False))) | ((with_reducible first | refine cK h1 ?_ | refine cQ h1 ?_ | refine cG h1 ?_); (simp (disch := omega) only [push_cast, ↓zz, seval, pR, pF, pC, pG, hs, hn, a3]); (fail_if_success (with_reducible change False))) | ((with_reducible first | refine cK h2 ?_ | refine cQ h2 ?_ | refine cG h2 ?_); (simp (disch := omega) only [push_cast, ↓zz, seval, pR, pF, pC, pG, hs, hn, a3]); (fail_if_success (with_reducible change False))) | ((with_reducible first | refine cK hE ?_ | refine cQ hE ?_ | refine cG hE ?_); (simp (disch := omega) only [push_cast, ↓zz, seval, pR, pF, pC, pG, hs, hn, a3]); (fail_if_success (with_reducible change False))) | omega | with_reducible intro _))
   refine z0n (z0p (fun (k : Nat) => k ≤ n) (fun k => n - k)
     (fun k => [(1, .ptr 0 1 0 0), (2, .ptr 1 1 0 0), (5, zb0 CL), (6, zb0 GL), (7, .ref 2 1 0 n), (8, .ptr 3 1 0 0), (44, .int .i64 n), (45, .int .i64 k)]) (fun k => [⟨6, 1, true, [z2r d]⟩, ⟨6, 1, true, [zpf]⟩, ⟨1, 1, true, famI n (numK u k)⟩, ⟨6, 1, true, [.agg [.int .i64 d.in_, .int .i64 d.out, .int .i64 (cntB u k : Nat), .int .i64 0, .nilS, .nilS]]⟩]) (fun env _ => [z0r 6 (env 1), z0r 6 (env 2), z0r 1 (env 7), z0r 6 (env 8)]) 0 (by simp) ?_ ?_)
   · have e0 := (zwm n u).symm
     have e1 : cntB u 0 = 0 := rfl
     have pI := zkp n
     (repeat' (first | (simp (disch := omega) only [push_cast, ↓zz, seval, pR, pF, pC, pG, e0, e1, pI]) | (with_reducible first | refine And.intro ?_ ?_ | (first | refine z01 ?_ ?_ | refine z00 ?_ ?_) <;> intro hc <;> (try simp only [push_cast] at hc)) | omega | with_reducible intro _))
   intro k hk
   have lI : ∀ f, (famI n f).length = n := fun f => by simp [famI]
   have pI := zkp n
   rcases Nat.lt_or_ge k n with hkn | hkn
   · have huk := hu k hkn
     have hcs := z4x u k
     have hcl := zea u k
     have hset1 : (famI n (numK u k)).set k (.int .i64 (-1)) = famI n fun p => if p = k then -1 else numK u k p := zc5 hkn
     have hset2 : (famI n fun p => if p = k then -1 else numK u k p).set k (.int .i64 (cntB u k : Nat)) = (famI n (numK u k)).set k (.int .i64 (cntB u k : Nat)) := by
       rw [← hset1, List.set_set]
     have hl3 := lI fun p => if p = k then -1 else numK u k p
     cases hck : nth CL k with
     | true =>
       cases hgk : nth GL k with
       | true =>
         rw [hck, hgk] at huk
         simp only [Bool.and_self, Bool.and_false] at huk
         have hnx := zi1 hkn u (z40 huk)
         rw [hnx] at hset2
         rw [if_pos huk] at hcs
         have hlY := lI (numK u k)
         generalize (famI n fun p => if p = k then -1 else numK u k p) = X at *
         generalize famI n (numK u k) = Y at *
         refine W_T ?_
         (repeat' (first | (simp (disch := omega) only [push_cast, ↓zz, seval, pR, pF, pC, pG, lI, pI, hck, hgk, hset1, hset2, hl3, hlY]) | (with_reducible first | refine And.intro ?_ ?_ | (first | refine z01 ?_ ?_ | refine z00 ?_ ?_) <;> intro hc <;> (try simp only [push_cast] at hc)) | omega | with_reducible intro _))
         all_goals
           refine ⟨k + 1, ?_⟩
           (repeat' (first | (simp (disch := omega) only [push_cast, ↓zz, seval, pI, hcs]) | (with_reducible first | refine And.intro ?_ ?_ | (first | refine z01 ?_ ?_ | refine z00 ?_ ?_) <;> intro hc <;> (try simp only [push_cast] at hc)) | omega | with_reducible intro _))
       | false =>
         rw [hck, hgk] at huk
         simp only [Bool.and_self, Bool.and_false] at huk
         have hnx := zi1 hkn u (zeb huk)
         rw [if_neg (by simp [huk])] at hcs
         refine W_T ?_
         (repeat' (first | (simp (disch := omega) only [push_cast, ↓zz, seval, pR, pF, pC, pG, lI, pI, hck, hgk, hnx]) | (with_reducible first | refine And.intro ?_ ?_ | (first | refine z01 ?_ ?_ | refine z00 ?_ ?_) <;> intro hc <;> (try simp only [push_cast] at hc)) | omega | with_reducible intro _))
         all_goals
           refine ⟨k + 1, ?_⟩
           (repeat' (first | (simp (disch := omega) only [push_cast, ↓zz, seval, pI, hcs]) | (with_reducible first | refine And.intro ?_ ?_ | (first | refine z01 ?_ ?_ | refine z00 ?_ ?_) <;> intro hc <;> (try simp only [push_cast] at hc)) | omega | with_reducible intro _))
     | false =>
       rw [hck, Bool.false_and] at huk
       have hnx := zi1 hkn u (zeb huk)
       rw [if_neg (by simp [huk])] at hcs
       refine W_T ?_
       (repeat' (first | (simp (disch := omega) only [push_cast, ↓zz, seval, pR, pF, pC, pG, lI, pI, hck, hnx]) | (with_reducible first | refine And.intro ?_ ?_ | (first | refine z01 ?_ ?_ | refine z00 ?_ ?_) <;> intro hc <;> (try simp only [push_cast] at hc)) | omega | with_reducible intro _))
       all_goals
         refine ⟨k + 1, ?_⟩
         (repeat' (first | (simp (disch := omega) only [push_cast, ↓zz, seval, pI, hcs]) | (with_reducible first | refine And.intro ?_ ?_ | (first | refine z01 ?_ ?_ | refine z00 ?_ ?_) <;> intro hc <;> (try simp only [push_cast] at hc)) | omega | with_reducible intro _))
   obtain ⟨k0, rfl⟩ : ∃ k0, k = k0 := ⟨k, rfl⟩
   have hkn2 : k = n := by omega
   subst hkn2
   have hna := y0v k u
   rw [hna]
   have aI : ∀ i, i < k → (famI k (numB u)).getD i .any = .int .i64 (numB u i) := fun i hi => z1r hi
   have aS := aI s hsn
   have nS := z40 husd
   generalize hnu : famI k (numB u) = NU at *
   have lN : NU.length = k := by rw [← hnu]; exact lI _
   have pN : z0h NU = true := by rw [← hnu]; exact pI _
   refine W_T ?_
   (repeat' (first | (simp (disch := omega) only [push_cast, ↓zz, seval, pR, pF, pC, pG, lN, pN, hs, aS]) | (with_reducible first | refine And.intro ?_ ?_ | (first | refine z01 ?_ ?_ | refine z00 ?_ ?_) <;> intro hc <;> (try simp only [push_cast] at hc)) | omega | with_reducible intro _))
   have hkR := fun j (hj : j < d.rules.length) => zs7 u hj
   refine z0n (z0p (fun (j : Nat) => j ≤ d.rules.length) (fun j => d.rules.length - j)
     (fun j => [(1, .ptr 0 1 0 0), (2, .ptr 1 1 0 0), (7, .ref 2 1 0 k), (8, .ptr 3 1 0 0), (78, z5q d.rules), (79, .int .i64 d.rules.length), (80, .int .i64 j)]) (fun j => [⟨6, 1, true, [z2r d]⟩, ⟨6, 1, true, [zpf]⟩, ⟨1, 1, true, NU⟩, ⟨6, 1, true, [.agg [.int .i64 d.in_, .int .i64 d.out, .int .i64 (cntB u k : Nat), .int .i64 (cntB u s : Nat), .ref 4 1 0 (z72 u (d.rules.take j)).length, .ref 5 1 0 ([] : List z5m).length]]⟩, ⟨5, 1, false, (z72 u (d.rules.take j)).map zbu⟩, ⟨3, 1, false, ([] : List z5m).map zd2⟩]) (fun env H => [z0r 6 (env 1), z0r 6 (env 2), z0r 1 (env 7), z0r 6 (env 8), z0r 5 (cellAt H (env 8) 4), z0r 3 (cellAt H (env 8) 5)]) 0 (by simp) ?_ ?_)
   · have e0 : z72 u [] = [] := rfl
     (repeat' (first | (simp (disch := omega) only [push_cast, ↓zz, seval, pR, pF, lN, pN, e0, nS]) | (with_reducible first | refine And.intro ?_ ?_ | (first | refine z01 ?_ ?_ | refine z00 ?_ ?_) <;> intro hc <;> (try simp only [push_cast] at hc)) | omega | with_reducible intro _))
   intro j hj
   have pK := z1a (z72 u (d.rules.take j))
   have lK := zkn u (d.rules.take j)
   rw [List.length_take] at lK
   rcases Nat.lt_or_ge j d.rules.length with hjl | hjl
   · have hr := hw.r _ (z1o hjl)
     have hrB := hrules _ (z1o hjl)
     have hO := y0w hrB
     have e1 := hkR j hjl
     generalize hre : nth d.rules j = r at *
     have hgr := z07 r.guards
     have hot := z0z r.out
     obtain ⟨x, hx⟩ : ∃ x : Nat, r.from_ = x := ⟨r.from_.toNat, by omega⟩
     obtain ⟨y, hy⟩ : ∃ y : Nat, r.to_ = y := ⟨r.to_.toNat, by omega⟩
     have hxn : x < k := by omega
     have hyn : y < k := by omega
     have aX := aI x hxn
     have aY := aI y hyn
     rw [hx, hy, Int.toNat_natCast, Int.toNat_natCast] at e1
     have cx := zea u x
     have cy := zea u y
     generalize z72 u (d.rules.take j) = K at *
     cases hux : u x with
     | true =>
       have nX := z40 hux
       rw [nX] at aX
       cases huy : u y with
       | true =>
         have nY := z40 huy
         rw [nY] at aY
         rw [if_pos (by rw [hux, huy]; rfl), nX, nY] at e1
         refine W_T ?_
         (repeat' (first | (simp (disch := omega) only [push_cast, ↓zz, seval, yy, List.mem_cons, List.not_mem_nil, or_false, false_or, not_or, not_false_eq_true, true_or, or_true, pR, pF, lN, pN, hre, hgr, hot, hx, hy, aX, aY, pK]) | (with_reducible first | refine And.intro ?_ ?_ | (first | refine z01 ?_ ?_ | refine z00 ?_ ?_) <;> intro hc <;> (try simp only [push_cast] at hc)) | ((with_reducible refine zh4 [6] [] [] (by simp) (by decide) ?_)) | ((with_reducible first | refine eK hO ?_ | refine eQ hO ?_ | refine eG hO ?_)) | ((with_reducible first | refine cK hO ?_ | refine cQ hO ?_ | refine cG hO ?_); (simp (disch := omega) only [push_cast, ↓zz, seval, yy, List.mem_cons, List.not_mem_nil, or_false, false_or, not_or, not_false_eq_true, true_or, or_true, pR, pF, lN, pN, hre, hgr, hot, hx, hy, aX, aY, pK]); (fail_if_success (with_reducible change False))) | omega | with_reducible intro _))
         all_goals
           refine ⟨j + 1, ?_⟩
           (repeat' (first | (simp (disch := omega) only [push_cast, ↓zz, seval, e1, pK, pN]) | (with_reducible first | refine And.intro ?_ ?_ | (first | refine z01 ?_ ?_ | refine z00 ?_ ?_) <;> intro hc <;> (try simp only [push_cast] at hc)) | omega | with_reducible intro _))
       | false =>
         have nY := zeb huy
         rw [nY] at aY
         rw [if_neg (by rw [hux, huy]; simp)] at e1
         refine W_T ?_
         (repeat' (first | (simp (disch := omega) only [push_cast, ↓zz, seval, yy, List.mem_cons, List.not_mem_nil, or_false, false_or, not_or, not_false_eq_true, true_or, or_true, pR, pF, lN, pN, hre, hgr, hot, hx, hy, aX, aY, pK]) | (with_reducible first | refine And.intro ?_ ?_ | (first | refine z01 ?_ ?_ | refine z00 ?_ ?_) <;> intro hc <;> (try simp only [push_cast] at hc)) | ((with_reducible refine zh4 [6] [] [] (by simp) (by decide) ?_)) | ((with_reducible first | refine eK hO ?_ | refine eQ hO ?_ | refine eG hO ?_)) | ((with_reducible first | refine cK hO ?_ | refine cQ hO ?_ | refine cG hO ?_); (simp (disch := omega) only [push_cast, ↓zz, seval, yy, List.mem_cons, List.not_mem_nil, or_false, false_or, not_or, not_false_eq_true, true_or, or_true, pR, pF, lN, pN, hre, hgr, hot, hx, hy, aX, aY, pK]); (fail_if_success (with_reducible change False))) | omega | with_reducible intro _))
         all_goals
           refine ⟨j + 1, ?_⟩
           (repeat' (first | (simp (disch := omega) only [push_cast, ↓zz, seval, e1, pK, pN]) | (with_reducible first | refine And.intro ?_ ?_ | (first | refine z01 ?_ ?_ | refine z00 ?_ ?_) <;> intro hc <;> (try simp only [push_cast] at hc)) | omega | with_reducible intro _))
     | false =>
       have nX := zeb hux
       rw [nX] at aX
       rw [if_neg (by rw [hux]; simp)] at e1
       generalize numB u y = ny at *
       refine W_T ?_
       (repeat' (first | (simp (disch := omega) only [push_cast, ↓zz, seval, yy, List.mem_cons, List.not_mem_nil, or_false, false_or, not_or, not_false_eq_true, true_or, or_true, pR, pF, lN, pN, hre, hgr, hot, hx, hy, aX, aY, pK]) | (with_reducible first | refine And.intro ?_ ?_ | (first | refine z01 ?_ ?_ | refine z00 ?_ ?_) <;> intro hc <;> (try simp only [push_cast] at hc)) | ((with_reducible refine zh4 [6] [] [] (by simp) (by decide) ?_)) | ((with_reducible first | refine eK hO ?_ | refine eQ hO ?_ | refine eG hO ?_)) | ((with_reducible first | refine cK hO ?_ | refine cQ hO ?_ | refine cG hO ?_); (simp (disch := omega) only [push_cast, ↓zz, seval, yy, List.mem_cons, List.not_mem_nil, or_false, false_or, not_or, not_false_eq_true, true_or, or_true, pR, pF, lN, pN, hre, hgr, hot, hx, hy, aX, aY, pK]); (fail_if_success (with_reducible change False))) | omega | with_reducible intro _))
       all_goals
         refine ⟨j + 1, ?_⟩
         (repeat' (first | (simp (disch := omega) only [push_cast, ↓zz, seval, e1, pK, pN]) | (with_reducible first | refine And.intro ?_ ?_ | (first | refine z01 ?_ ?_ | refine z00 ?_ ?_) <;> intro hc <;> (try simp only [push_cast] at hc)) | omega | with_reducible intro _))
   obtain rfl : j = d.rules.length := by omega
   have et : d.rules.take d.rules.length = d.rules := List.take_of_length_le (by omega)
   rw [et] at pK lK ⊢
   refine W_T ?_
   (repeat' (first | (simp (disch := omega) only [push_cast, ↓zz, seval, pR, pF, lN, pN, pK, et]) | (with_reducible first | refine And.intro ?_ ?_ | (first | refine z01 ?_ ?_ | refine z00 ?_ ?_) <;> intro hc <;> (try simp only [push_cast] at hc)) | omega | with_reducible intro _))
   have hkF := fun j (hj : j < d.finals.length) => zs8 u hj
   generalize hKR : z72 u d.rules = KR at *
   refine z0n (z0p (fun (j : Nat) => j ≤ d.finals.length) (fun j => d.finals.length - j)
     (fun j => [(2, .ptr 0 1 0 0), (7, .ref 1 1 0 k), (8, .ptr 2 1 0 0), (122, zd3 d.finals), (123, .int .i64 d.finals.length), (124, .int .i64 j)]) (fun j => [⟨6, 1, true, [zpf]⟩, ⟨1, 1, true, NU⟩, ⟨6, 1, true, [.agg [.int .i64 d.in_, .int .i64 d.out, .int .i64 (cntB u k : Nat), .int .i64 (cntB u s : Nat), .ref 3 1 0 KR.length, .ref 4 1 0 (z7l u (d.finals.take j)).length]]⟩, ⟨5, 1, false, KR.map zbu⟩, ⟨3, 1, false, (z7l u (d.finals.take j)).map zd2⟩]) (fun env H => [z0r 6 (env 2), z0r 1 (env 7), z0r 6 (env 8), z0r 5 (cellAt H (env 8) 4), z0r 3 (cellAt H (env 8) 5)]) 0 (by simp) ?_ ?_)
   · have e0 : z7l u [] = [] := rfl
     (repeat' (first | (simp (disch := omega) only [push_cast, ↓zz, seval, pR, pF, lN, pN, e0, pK]) | (with_reducible first | refine And.intro ?_ ?_ | (first | refine z01 ?_ ?_ | refine z00 ?_ ?_) <;> intro hc <;> (try simp only [push_cast] at hc)) | omega | with_reducible intro _))
   intro j hj
   have pJ := z1b (z7l u (d.finals.take j))
   have lJ := zko u (d.finals.take j)
   rw [List.length_take] at lJ
   rcases Nat.lt_or_ge j d.finals.length with hjl | hjl
   · have hr := hw.f _ (z1o hjl)
     have hrB := hfinals _ (z1o hjl)
     have hO := zwn hrB
     have e1 := hkF j hjl
     generalize hre : nth d.finals j = r at *
     have hgr := z07 r.guards
     have hot := z0z r.out
     obtain ⟨x, hx⟩ : ∃ x : Nat, r.from_ = x := ⟨r.from_.toNat, by omega⟩
     have hxn : x < k := by omega
     have aX := aI x hxn
     rw [hx, Int.toNat_natCast] at e1
     have cx := zea u x
     generalize z7l u (d.finals.take j) = K at *
     cases hux : u x with
     | true =>
       have nX := z40 hux
       rw [nX] at aX
       rw [if_pos hux, nX] at e1
       refine W_T ?_
       (repeat' (first | (simp (disch := omega) only [push_cast, ↓zz, seval, pR, pF, lN, pN, hre, hgr, hot, hx, aX, pK, pJ]) | (with_reducible first | refine And.intro ?_ ?_ | (first | refine z01 ?_ ?_ | refine z00 ?_ ?_) <;> intro hc <;> (try simp only [push_cast] at hc)) | ((with_reducible first | refine eK hO ?_ | refine eQ hO ?_ | refine eG hO ?_)) | ((with_reducible first | refine cK hO ?_ | refine cQ hO ?_ | refine cG hO ?_); (simp (disch := omega) only [push_cast, ↓zz, seval, pR, pF, lN, pN, hre, hgr, hot, hx, aX, pK, pJ]); (fail_if_success (with_reducible change False))) | omega | with_reducible intro _))
       all_goals
         refine ⟨j + 1, ?_⟩
         (repeat' (first | (simp (disch := omega) only [push_cast, ↓zz, seval, e1, pK, pJ, pN]) | (with_reducible first | refine And.intro ?_ ?_ | (first | refine z01 ?_ ?_ | refine z00 ?_ ?_) <;> intro hc <;> (try simp only [push_cast] at hc)) | omega | with_reducible intro _))
     | false =>
       have nX := zeb hux
       rw [nX] at aX
       rw [if_neg (by rw [hux]; simp)] at e1
       refine W_T ?_
       (repeat' (first | (simp (disch := omega) only [push_cast, ↓zz, seval, pR, pF, lN, pN, hre, hgr, hot, hx, aX, pK, pJ]) | (with_reducible first | refine And.intro ?_ ?_ | (first | refine z01 ?_ ?_ | refine z00 ?_ ?_) <;> intro hc <;> (try simp only [push_cast] at hc)) | ((with_reducible first | refine eK hO ?_ | refine eQ hO ?_ | refine eG hO ?_)) | ((with_reducible first | refine cK hO ?_ | refine cQ hO ?_ | refine cG hO ?_); (simp (disch := omega) only [push_cast, ↓zz, seval, pR, pF, lN, pN, hre, hgr, hot, hx, aX, pK, pJ]); (fail_if_success (with_reducible change False))) | omega | with_reducible intro _))
       all_goals
         refine ⟨j + 1, ?_⟩
         (repeat' (first | (simp (disch := omega) only [push_cast, ↓zz, seval, e1, pK, pJ, pN]) | (with_reducible first | refine And.intro ?_ ?_ | (first | refine z01 ?_ ?_ | refine z00 ?_ ?_) <;> intro hc <;> (try simp only [push_cast] at hc)) | omega | with_reducible intro _))
   obtain rfl : j = d.finals.length := by omega
   have et2 : d.finals.take d.finals.length = d.finals := List.take_of_length_le (by omega)
   rw [et2] at pJ lJ ⊢
   refine W_T ?_
   (repeat' (first | (simp (disch := omega) only [push_cast, ↓zz, seval, pR, pF, lN, pN, pK, pJ, et2]) | (with_reducible first | refine And.intro ?_ ?_ | (first | refine z01 ?_ ?_ | refine z00 ?_ ?_) <;> intro hc <;> (try simp only [push_cast] at hc)) | omega | with_reducible intro _))
   all_goals (rw [nS]; (repeat' (first | (simp (disch := omega) only [push_cast, ↓zz, seval, z1q]) | omega | (with_reducible refine And.intro ?_ ?_))))
   all_goals trace_state
theorem za6 {n : Nat} {F : List Int} {E : List (Int × Int)} (hr : InR n F E) {on : Nat → Bool} (h1 : ∀ i : Nat, on i = true → Reach E F i) (h2 : ∀ s ∈ F, on s.toNat = true) (h3 : ∀ e ∈ E, on e.1.toNat = true → on e.2.toNat = true) (i : Nat) : z3b E F i = on i :=
 (zwd hr ⟨fun s hs => (by cases hs), h1, fun s hs => .inl (h2 s hs), fun j hj t ht => .inl (by have := h3 _ ht; simpa [hj] using this)⟩ i).symm
def exK : Desc := ⟨1, 1, 3, 0, [⟨0, 1, [[⟨97, 97⟩]], 1, []⟩, ⟨0, 2, [[⟨98, 98⟩]], 1, []⟩], [⟨1, [], []⟩]⟩
theorem zec {s x : Int} (h : memL (domL s) x) : z4g s [[⟨x, x⟩]] = true := by
 have hb := (y0u s).2 x h
 have hm : z7j [⟨x, x⟩] (domL s) = [] := (zwk (fun v hv => by obtain ⟨t, ht, h1, h2⟩ := hv; simp only [List.mem_singleton] at ht; subst ht; simp only at h1 h2; omega) (fun t ht => by simp only [List.mem_singleton] at ht; subst ht; simp)).2 fun v hv => by
   obtain ⟨t, ht, h1, h2⟩ := hv
   simp only [List.mem_singleton] at ht
   subst ht
   simp only at h1 h2
   have : v = x := by omega
   rw [this]; exact h
 have hc : ze1 (-1073741826) [⟨x, x⟩] = true := by simp [ze1]; omega
 simp [z4g, zg3, hm, zp9, hc]
theorem z7m : z2s exK = 0 := by
 refine (z6v (by decide) (fun r hr => ?_) (fun f hf => ?_) ?_).2
 · simp only [exK, List.mem_cons, List.not_mem_nil, or_false] at hr
   rcases hr with rfl | rfl
   · simp only [z6g, Bool.and_eq_true]
     exact ⟨by decide, by decide, zec (zi0.2 (by decide)), by decide, by decide⟩
   · simp only [z6g, Bool.and_eq_true]
     exact ⟨by decide, by decide, zec (zi0.2 (by decide)), by decide, by decide⟩
 · simp only [exK, List.mem_singleton] at hf
   subst hf
   decide
 · rintro ⟨C, hC, j, hj⟩
   obtain ⟨_, r, hr, he, _⟩ := hC j hj
   simp only [exK, List.mem_cons, List.not_mem_nil, or_false] at hr
   rcases hr with rfl | rfl <;> simp [z4q] at he
theorem zmu : z63 exK := by
 refine ⟨fun r hr t ht => ?_, fun f hf t ht => ?_⟩
 · simp only [exK, List.mem_cons, List.not_mem_nil, or_false] at hr
   rcases hr with rfl | rfl <;> cases ht
 · simp only [exK, List.mem_singleton] at hf
   subst hf
   cases ht
theorem zkq (i : Nat) : z3b (fwdE exK) [exK.start] i = decide (i < 3) := by
 refine za6 (n := 3) ((z8f z7m).fwd rfl) (on := fun i => decide (i < 3)) (fun i hi => ?_) (by decide) (by decide) i
 have b : Reach (fwdE exK) [exK.start] 0 := .base (by decide)
 match i, hi with
 | 0, _ => exact b
 | 1, _ => exact .step b (by decide)
 | 2, _ => exact .step b (by decide)
 | i + 3, h => exact absurd (of_decide_eq_true h) (by omega)
theorem zi2 (i : Nat) : z3b (bwdE exK) (endE exK) i = decide (i < 2) := by
 refine za6 (n := 3) ((z8f z7m).bwd rfl) (on := fun i => decide (i < 2)) (fun i hi => ?_) (by decide) (by decide) i
 have b : Reach (bwdE exK) (endE exK) 1 := .base (by decide)
 match i, hi with
 | 0, _ => exact .step b (by decide)
 | 1, _ => exact b
 | i + 2, h => exact absurd (of_decide_eq_true h) (by omega)
theorem y0x : z2x exK = fun i => decide (i < 2) := by
 funext i
 rw [z2x, zkq, zi2]
 by_cases h : i < 2
 · simp [h]; omega
 · simp [h]
theorem y0y : z54 exK = ⟨1, 1, 2, 0, [⟨0, 1, [[⟨97, 97⟩]], 1, []⟩], [⟨1, [], []⟩]⟩ := by
 unfold z54
 rw [zi2, y0x]
 rfl
theorem zs9 : z5k exK = [0, 1, 2] := by
 have : z6t exK = [true, true, true] := by
   rw [z6t, z3l]
   have e : (z3b (fwdE exK) [exK.start]) = fun i => decide (i < 3) := funext zkq
   rw [e]; rfl
 rw [z5k, this]; rfl
theorem zwo : z97 exK = [0, 1] := by
 have : goL exK = [true, true, false] := by
   rw [goL, z3l]
   have e : (z3b (bwdE exK) (endE exK)) = fun i => decide (i < 2) := funext zi2
   rw [e]; rfl
 rw [z97, this]; rfl
abbrev exKV : AV := .agg [.int .i64 1, .int .i64 1, .int .i64 3, .int .i64 0, .lst 5 [.agg [.int .i64 0, .int .i64 1, z0d [[⟨97, 97⟩]], .int .i64 1, .nilS], .agg [.int .i64 0, .int .i64 2, z0d [[⟨98, 98⟩]], .int .i64 1, .nilS]], .lst 3 [.agg [.int .i64 1, .nilS, .nilS]]]
theorem zmv : AV.le exKV (z2r exK) := by
 refine AV.le_agg (z0e (AV.le_refl _) (z0e (AV.le_refl _) (z0e (AV.le_refl _) (z0e (AV.le_refl _) (z0e (AV.le_lst rfl (z1a _) ?_) (z0e (AV.le_lst rfl (z1b _) ?_) z2k))))))
 · have k : ∀ a b : Int, ∀ g : List (List Span), AV.le (.agg [.int .i64 a, .int .i64 b, z0d g, .int .i64 1, .nilS]) (zbu ⟨a, b, g, 1, []⟩) := fun a b g => AV.le_agg (z0e (AV.le_refl _) (z0e (AV.le_refl _) (z0e (AV.le_refl _) (z0e (AV.le_refl _) (z0e (AV.le_nilS (by decide)) z2k)))))
   exact z0e (k _ _ _) (z0e (k _ _ _) z2k)
 · exact z0e (AV.le_agg (z0e (AV.le_refl _) (z0e (AV.le_nilS (by decide)) (z0e (AV.le_nilS (by decide)) z2k)))) z2k
theorem zed : PC Try.prog 23 [] (.bool true) := by
 have hC := zat exK zmu z7m
 have hG := z98 exK zmu z7m
 have hT := za5 exK zmu z7m
 rw [zs9] at hC
 rw [zwo] at hG
 rw [y0y] at hT
 have hC := z5f hC (z0e zmv z2k)
 have hG := z5f hG (z0e zmv z2k)
 have hT := z5f hT (z0e zmv z2k)
 refine y0p zh8 ?_
 unfold z9l
 refine z8v (W_T ?_)
 (repeat' (first | (simp (disch := omega) only [push_cast, ↓zz, seval]) | (with_reducible first | refine And.intro ?_ ?_ | (first | refine z01 ?_ ?_ | refine z00 ?_ ?_) <;> intro hc <;> (try simp only [push_cast] at hc)) | omega | with_reducible intro _))
 refine z8v (W_T ?_)
 (repeat' (first | (simp (disch := omega) only [push_cast, ↓zz, seval]) | (with_reducible first | refine And.intro ?_ ?_ | (first | refine z01 ?_ ?_ | refine z00 ?_ ?_) <;> intro hc <;> (try simp only [push_cast] at hc)) | omega | with_reducible intro _))
 refine z8v (W_T ?_)
 (repeat' (first | (simp (disch := omega) only [push_cast, ↓zz, seval]) | (with_reducible first | refine And.intro ?_ ?_ | (first | refine z01 ?_ ?_ | refine z00 ?_ ?_) <;> intro hc <;> (try simp only [push_cast] at hc)) | omega | with_reducible intro _))
 refine zqp (zfs (l' := [⟨0, 2, false, []⟩, ⟨0, 2, false, []⟩, ⟨0, 2, false, []⟩, ⟨0, 2, false, []⟩, ⟨0, 2, false, []⟩, ⟨0, 2, false, []⟩, ⟨6, 1, true, [exKV]⟩]) (g := 6) (d := 8) [0, 1, 2, 3, 4, 5] (by decide) (by simp) rfl (by decide) ?_ ?_) (W_T ?_)
 · (simp (disch := omega) only [push_cast, ↓zz, seval])
 · rfl
 (repeat' (first | (simp (disch := omega) only [push_cast, ↓zz, seval]) | (with_reducible first | refine And.intro ?_ ?_ | (first | refine z01 ?_ ?_ | refine z00 ?_ ?_) <;> intro hc <;> (try simp only [push_cast] at hc)) | ((with_reducible first | refine eK hC ?_ | refine eQ hC ?_)) | ((with_reducible first | refine eK hG ?_ | refine eQ hG ?_)) | ((with_reducible first | refine eK hT ?_ | refine eQ hT ?_)) | omega | with_reducible intro _))
 all_goals trace_state
structure y60 (d : Desc) (k : Nat) (f : Bool) (w a l : Int) : Prop where
 le : k ≤ d.rules.length
 fr : freeB d = (f && (d.rules.drop k).all fun r => !z4q r)
 wi : y9h d = (d.rules.drop k).foldl widF w
 ah : y9i d = (d.rules.drop k).foldl aheF a
 lo : longV d = d.finals.foldl lonG ((d.rules.drop k).foldl lonF l)
 nn : 0 ≤ a
theorem y60.step {d : Desc} {k : Nat} {f : Bool} {w a l : Int} (h : y60 d k f w a l) (hk : k < d.rules.length) {f2 : Bool} {w2 a2 l2 : Int} (e1 : f2 = (f && !z4q (nth d.rules k))) (e2 : w2 = widF w (nth d.rules k)) (e3 : a2 = aheF a (nth d.rules k)) (e4 : l2 = lonF l (nth d.rules k)) : y60 d (k + 1) f2 w2 a2 l2 where
 le := by omega
 fr := by rw [h.fr, drop_at hk, List.all_cons, e1, Bool.and_assoc]
 wi := by rw [h.wi, fold_at hk, e2]
 ah := by rw [h.ah, fold_at hk, e3]
 lo := by rw [h.lo, fold_at hk, e4]
 nn := by have := h.nn; rw [e3, aheF]; omega
end Go.Proofs.Yticodgjinajkpaa
namespace Go.Proofs.Yticodgjinajkpaa
open Abs
end Go.Proofs.Yticodgjinajkpaa
namespace Go.Proofs.Yticodgjinajkpaa
open Abs
structure GOk (i : Int) (gs : List (List Span)) : Prop where
 len : gs.length ≤ 4
 short : ∀ g ∈ gs, g.length ≤ 64
 some : ∀ g ∈ gs, ∃ v, memL g v
 dom : ∀ g ∈ gs, ∀ v, memL g v → zs6 i v = true
theorem zg8 : ∀ {l : List Int} {a b : Int}, z42 l → (∀ x ∈ l, a ≤ x ∧ x ≤ b) → a ≤ b + 1 → (l.length : Int) ≤ b - a + 1
 | [], a, b, _, _, h => by simp; omega
 | x :: l, a, b, hr, hm, h => by
   obtain ⟨r1, r2⟩ := List.pairwise_cons.1 hr
   have hx := hm x (by simp)
   have := zg8 (a := x + 1) (b := b) r2 (fun y hy => by have := r1 y hy; have := hm y (by simp [hy]); omega) (by omega)
   push_cast [List.length_cons]
   omega
structure y9j (now : List Int) : Prop where
 ris : z42 now
 bd : ∀ x ∈ now, -1114111 ≤ x ∧ x ≤ 1114111
 pos : 0 < now.length
theorem y9j.len {now : List Int} (h : y9j now) : now.length ≤ 2228223 := by
 have := zg8 h.ris h.bd (by omega)
 omega
end Go.Proofs.Yticodgjinajkpaa
namespace Go.Proofs.Yticodgjinajkpaa
open Abs
structure TOk (t : Term) (i : Int) (gs : List (List Span)) : Prop where
 parts : ∀ p ∈ t.parts, z4z p gs.length = true
 four : t.parts.length ≤ 4
 sm : -1114111 ≤ t.sum ∧ t.sum ≤ 1114111
 sort : i = 1 ∨ (i = 2 ∧ t.parts.length ≤ 1 ∧ ∀ p ∈ t.parts, z9w p = true)
theorem TOk.bits {t : Term} {i : Int} {gs : List (List Span)} (h : TOk t i gs) : ∀ p ∈ t.parts, z60 p = true := fun p hp => by
 have := h.parts p hp
 simp only [z4z, Bool.and_eq_true] at this
 exact this.2
theorem TOk.at {t : Term} {i : Int} {gs : List (List Span)} (h : TOk t i gs) : ∀ p ∈ t.parts, 0 ≤ p.at_ ∧ p.at_ < gs.length := fun p hp => z0a (h.parts p hp)
end Go.Proofs.Yticodgjinajkpaa
namespace Go.Proofs.Yticodgjinajkpaa
open Abs
def sumT {α : Type} (f : α → Int) (l : List α) : Int := (l.map f).sum
theorem zi3 {α : Type} [Inhabited α] {f : α → Int} {l : List α} {k : Nat} (h : k < l.length) : sumT f (l.take (k + 1)) = sumT f (l.take k) + f (nth l k) := by rw [take_at h]; simp [sumT]
theorem z4y {α : Type} {f : α → Int} {B : Int} (hf : ∀ x, 0 ≤ f x ∧ f x ≤ B) : ∀ l : List α, 0 ≤ sumT f l ∧ sumT f l ≤ l.length * B
 | [] => by simp [sumT]
 | x :: l => by
   have h1 := z4y hf l
   have h2 := hf x
   have e : sumT f (x :: l) = f x + sumT f l := by simp [sumT]
   have e2 : ((x :: l).length : Int) * B = l.length * B + B := by push_cast [List.length_cons]; rw [Int.add_mul, Int.one_mul]
   omega
theorem z8a {α : Type} {f : α → Int} (hf : ∀ x, 0 ≤ f x) : ∀ {l : List α} {x : α}, x ∈ l → f x ≤ sumT f l
 | y :: l, x, h => by
   have e : sumT f (y :: l) = f y + sumT f l := by simp [sumT]
   have hn : ∀ m : List α, 0 ≤ sumT f m := fun m => by
     induction m with
     | nil => simp [sumT]
     | cons z m ih =>
       have e : sumT f (z :: m) = f z + sumT f m := by simp [sumT]
       have := hf z
       omega
   have h1 := hf y
   have h2 := hn l
   rcases List.mem_cons.1 h with rfl | h
   · omega
   · have := z8a hf h
     omega
def szG (g : List Span) : Int := min (g.length : Int) 4000
def szT (t : Term) : Int := 1 + min (t.parts.length : Int) 4000
theorem zpg (g : List Span) : 0 ≤ szG g ∧ szG g ≤ 4000 := by unfold szG; omega
theorem zph (t : Term) : 0 ≤ szT t ∧ szT t ≤ 4001 := by unfold szT; omega
def z73 (gs : List (List Span)) (out : List Term) : Int := if 100 < gs.length ∨ 200 < out.length then 4000 else 1 + sumT szG gs + sumT szT out
theorem zg9 (gs : List (List Span)) (out : List Term) : PC Try.prog 27 [z0d gs, z37 out] (.int .i64 (z73 gs out)) := by
 have hP := z07 gs
 have hT := z0z out
 refine z0v zjm ?_
 unfold zb6
 by_cases hb : 100 < gs.length ∨ 200 < out.length
 · rw [z73, if_pos hb]
   (repeat' (first | (simp (disch := omega) only [push_cast, ↓zz, seval, hP, hT]) | (with_reducible first | refine And.intro ?_ ?_ | (first | refine z01 ?_ ?_ | refine z00 ?_ ?_) <;> intro hc <;> (try simp only [push_cast] at hc)) | omega | with_reducible intro _))
 rw [z73, if_neg hb]
 (repeat' (first | (simp (disch := omega) only [push_cast, ↓zz, seval, hP, hT]) | (with_reducible first | refine And.intro ?_ ?_ | (first | refine z01 ?_ ?_ | refine z00 ?_ ?_) <;> intro hc <;> (try simp only [push_cast] at hc)) | omega | with_reducible intro _))
 refine z0n (z0p (fun (k : Nat) => k ≤ gs.length) (fun k => gs.length - k)
   (fun k => [(0, z0d gs), (1, z37 out), (5, .int .i64 (1 + sumT szG (gs.take k))), (6, .int .i64 k)]) (fun k => []) (fun _ _ => []) 0 (by simp) ?_ ?_)
 · have e0 : sumT szG ([] : List (List Span)) = 0 := rfl
   (repeat' (first | (simp (disch := omega) only [push_cast, ↓zz, seval, hP, hT, e0]) | (with_reducible first | refine And.intro ?_ ?_ | (first | refine z01 ?_ ?_ | refine z00 ?_ ?_) <;> intro hc <;> (try simp only [push_cast] at hc)) | omega | with_reducible intro _))
 intro k hk
 have hb1 := z4y zpg (gs.take k)
 have hb2 : ((gs.take k).length : Int) * 4000 ≤ 100 * 4000 := Int.mul_le_mul_of_nonneg_right (by simp; omega) (by omega)
 rcases Nat.lt_or_ge k gs.length with hkl | hkl
 · have hst := zi3 (f := szG) hkl
   have hx := zpg (nth gs k)
   have hsz : min ((nth gs k).length : Int) 4000 = szG (nth gs k) := rfl
   generalize hge : nth gs k = g at *
   generalize sumT szG (gs.take k) = n at *
   have hw : IntKind.i64.wrap (1 + n + szG g) = 1 + n + szG g := IntWalk.i64_in _ (by omega)
   refine W_T ?_
   (repeat' (first | (simp (disch := omega) only [push_cast, ↓zz, seval, hP, hT, hge, hsz, hw]) | (with_reducible first | refine And.intro ?_ ?_ | (first | refine z01 ?_ ?_ | refine z00 ?_ ?_) <;> intro hc <;> (try simp only [push_cast] at hc)) | omega | with_reducible intro _))
   all_goals
     refine ⟨k + 1, ?_⟩
     (repeat' (first | (simp (disch := omega) only [push_cast, ↓zz, seval, hst]) | (with_reducible first | refine And.intro ?_ ?_ | (first | refine z01 ?_ ?_ | refine z00 ?_ ?_) <;> intro hc <;> (try simp only [push_cast] at hc)) | omega | with_reducible intro _))
   all_goals first
     | omega
     | trace_state
 · have hkt : gs.take k = gs := List.take_of_length_le hkl
   rw [hkt] at hb1 hb2 ⊢
   generalize sumT szG gs = n at *
   refine W_T ?_
   (repeat' (first | (simp (disch := omega) only [push_cast, ↓zz, seval, hP, hT]) | (with_reducible first | refine And.intro ?_ ?_ | (first | refine z01 ?_ ?_ | refine z00 ?_ ?_) <;> intro hc <;> (try simp only [push_cast] at hc)) | omega | with_reducible intro _))
   refine z0n (z0p (fun (k : Nat) => k ≤ out.length) (fun k => out.length - k)
     (fun k => [(1, z37 out), (5, .int .i64 (1 + n + sumT szT (out.take k))), (7, .int .i64 k)]) (fun k => []) (fun _ _ => []) 0 (by simp) ?_ ?_)
   · have e0 : sumT szT ([] : List Term) = 0 := rfl
     (repeat' (first | (simp (disch := omega) only [push_cast, ↓zz, seval, hP, hT, e0, Int.add_zero]) | (with_reducible first | refine And.intro ?_ ?_ | (first | refine z01 ?_ ?_ | refine z00 ?_ ?_) <;> intro hc <;> (try simp only [push_cast] at hc)) | omega | with_reducible intro _))
   intro j hj
   have hb3 := z4y zph (out.take j)
   have hb4 : ((out.take j).length : Int) * 4001 ≤ 200 * 4001 := Int.mul_le_mul_of_nonneg_right (by simp; omega) (by omega)
   rcases Nat.lt_or_ge j out.length with hjl | hjl
   · have hst := zi3 (f := szT) hjl
     have hx := zph (nth out j)
     have hsz : szT (nth out j) = 1 + min ((nth out j).parts.length : Int) 4000 := rfl
     generalize hge : nth out j = t at *
     generalize sumT szT (out.take j) = m at *
     generalize hze : min (t.parts.length : Int) 4000 = z at *
     have hw : IntKind.i64.wrap (1 + n + m + 1) = 1 + n + m + 1 := IntWalk.i64_in _ (by omega)
     have hw2 : IntKind.i64.wrap (1 + n + m + 1 + z) = 1 + n + m + 1 + z := IntWalk.i64_in _ (by omega)
     refine W_T ?_
     (repeat' (first | (simp (disch := omega) only [push_cast, ↓zz, seval, hP, hT, hge, hze, hw, hw2]) | (with_reducible first | refine And.intro ?_ ?_ | (first | refine z01 ?_ ?_ | refine z00 ?_ ?_) <;> intro hc <;> (try simp only [push_cast] at hc)) | omega | with_reducible intro _))
     all_goals
       refine ⟨j + 1, ?_⟩
       (repeat' (first | (simp (disch := omega) only [push_cast, ↓zz, seval, hst]) | (with_reducible first | refine And.intro ?_ ?_ | (first | refine z01 ?_ ?_ | refine z00 ?_ ?_) <;> intro hc <;> (try simp only [push_cast] at hc)) | omega | with_reducible intro _))
     all_goals first
       | omega
       | trace_state
   · have hjt : out.take j = out := List.take_of_length_le hjl
     rw [hjt]
     refine W_T ?_
     (repeat' (first | (simp (disch := omega) only [push_cast, ↓zz, seval, hP, hT]) | (with_reducible first | refine And.intro ?_ ?_ | (first | refine z01 ?_ ?_ | refine z00 ?_ ?_) <;> intro hc <;> (try simp only [push_cast] at hc)) | omega | with_reducible intro _))
     all_goals trace_state
theorem zau (gs : List (List Span)) (out : List Term) : 0 ≤ z73 gs out ∧ z73 gs out ≤ 2000000 := by
 unfold z73
 have h1 := z4y zpg gs
 have h2 := z4y zph out
 split
 · omega
 · omega
def szR (r : Rule) : Int := z73 r.guards r.out
def szF (f : z5m) : Int := z73 f.guards f.out
def zbs (d : Desc) : Bool := decide (d.rules.length ≤ 80 ∧ d.finals.length ≤ 80) && decide (sumT szR d.rules + sumT szF d.finals ≤ 1500)
theorem zmw (d : Desc) : PC Try.prog 10 [z2r d] (.bool (zbs d)) := by
 have hPr := z1a d.rules
 have hPf := z1b d.finals
 have sR : ∀ r, 0 ≤ szR r ∧ szR r ≤ 2000000 := fun r => zau _ _
 have sF : ∀ f, 0 ≤ szF f ∧ szF f ≤ 2000000 := fun r => zau _ _
 refine z0v zh7 ?_
 unfold z9k
 by_cases hb : d.rules.length ≤ 80 ∧ d.finals.length ≤ 80
 · rw [zbs, decide_eq_true hb, Bool.true_and]
   (repeat' (first | (simp (disch := omega) only [push_cast, ↓zz, seval]) | (with_reducible first | refine And.intro ?_ ?_ | (first | refine z01 ?_ ?_ | refine z00 ?_ ?_) <;> intro hc <;> (try simp only [push_cast] at hc)) | omega | with_reducible intro _))
   refine z0n (z0p (fun (k : Nat) => k ≤ d.rules.length) (fun k => d.rules.length - k)
     (fun k => [(1, .ptr 0 1 0 0), (3, .int .i64 (sumT szR (d.rules.take k))), (4, .int .i64 k)]) (fun k => [⟨6, 1, true, [z2r d]⟩]) (fun env _ => [z0r 1 (env 1)]) 0 (by simp) ?_ ?_)
   · have e0 : sumT szR ([] : List Rule) = 0 := rfl
     (repeat' (first | (simp (disch := omega) only [push_cast, ↓zz, seval, hPr, hPf, e0]) | (with_reducible first | refine And.intro ?_ ?_ | (first | refine z01 ?_ ?_ | refine z00 ?_ ?_) <;> intro hc <;> (try simp only [push_cast] at hc)) | omega | with_reducible intro _))
   intro k hk
   have hb1 := z4y sR (d.rules.take k)
   have hb2 : ((d.rules.take k).length : Int) * 2000000 ≤ 80 * 2000000 := Int.mul_le_mul_of_nonneg_right (by simp; omega) (by omega)
   rcases Nat.lt_or_ge k d.rules.length with hkl | hkl
   · have hst := zi3 (f := szR) hkl
     have hx := sR (nth d.rules k)
     have hS := zg9 (nth d.rules k).guards (nth d.rules k).out
     have hsz : z73 (nth d.rules k).guards (nth d.rules k).out = szR (nth d.rules k) := rfl
     rw [hsz] at hS
     generalize hge : nth d.rules k = r at *
     generalize sumT szR (d.rules.take k) = n at *
     have hw : IntKind.i64.wrap (n + szR r) = n + szR r := IntWalk.i64_in _ (by omega)
     have hpg := z07 r.guards
     have hpt := z0z r.out
     refine W_T ?_
     (repeat' (first | (simp (disch := omega) only [push_cast, ↓zz, seval, hPr, hPf, hge, hw, hpg, hpt]) | (with_reducible first | refine And.intro ?_ ?_ | (first | refine z01 ?_ ?_ | refine z00 ?_ ?_) <;> intro hc <;> (try simp only [push_cast] at hc)) | ((with_reducible first | refine eK hS ?_ | refine eQ hS ?_ | refine eG hS ?_)) | ((with_reducible first | refine cK hS ?_ | refine cQ hS ?_ | refine cG hS ?_); (simp (disch := omega) only [push_cast, ↓zz, seval, hPr, hPf, hge, hw, hpg, hpt]); (fail_if_success (with_reducible change False))) | omega | with_reducible intro _))
     all_goals
       refine ⟨k + 1, ?_⟩
       (repeat' (first | (simp (disch := omega) only [push_cast, ↓zz, seval, hst]) | (with_reducible first | refine And.intro ?_ ?_ | (first | refine z01 ?_ ?_ | refine z00 ?_ ?_) <;> intro hc <;> (try simp only [push_cast] at hc)) | omega | with_reducible intro _))
   · have hkt : d.rules.take k = d.rules := List.take_of_length_le hkl
     rw [hkt] at hb1 hb2 ⊢
     generalize sumT szR d.rules = n at *
     refine W_T ?_
     (repeat' (first | (simp (disch := omega) only [push_cast, ↓zz, seval, hPr, hPf]) | (with_reducible first | refine And.intro ?_ ?_ | (first | refine z01 ?_ ?_ | refine z00 ?_ ?_) <;> intro hc <;> (try simp only [push_cast] at hc)) | omega | with_reducible intro _))
     refine z0n (z0p (fun (k : Nat) => k ≤ d.finals.length) (fun k => d.finals.length - k)
       (fun k => [(1, .ptr 0 1 0 0), (3, .int .i64 (n + sumT szF (d.finals.take k))), (5, .int .i64 k)]) (fun k => [⟨6, 1, true, [z2r d]⟩]) (fun env _ => [z0r 1 (env 1)]) 0 (by simp) ?_ ?_)
     · have e0 : sumT szF ([] : List z5m) = 0 := rfl
       (repeat' (first | (simp (disch := omega) only [push_cast, ↓zz, seval, hPr, hPf, e0, Int.add_zero]) | (with_reducible first | refine And.intro ?_ ?_ | (first | refine z01 ?_ ?_ | refine z00 ?_ ?_) <;> intro hc <;> (try simp only [push_cast] at hc)) | omega | with_reducible intro _))
     intro j hj
     have hb3 := z4y sF (d.finals.take j)
     have hb4 : ((d.finals.take j).length : Int) * 2000000 ≤ 80 * 2000000 := Int.mul_le_mul_of_nonneg_right (by simp; omega) (by omega)
     rcases Nat.lt_or_ge j d.finals.length with hjl | hjl
     · have hst := zi3 (f := szF) hjl
       have hx := sF (nth d.finals j)
       have hS := zg9 (nth d.finals j).guards (nth d.finals j).out
       have hsz : z73 (nth d.finals j).guards (nth d.finals j).out = szF (nth d.finals j) := rfl
       rw [hsz] at hS
       generalize hge : nth d.finals j = f at *
       generalize sumT szF (d.finals.take j) = m at *
       have hw : IntKind.i64.wrap (n + m + szF f) = n + m + szF f := IntWalk.i64_in _ (by omega)
       have hpg := z07 f.guards
       have hpt := z0z f.out
       refine W_T ?_
       (repeat' (first | (simp (disch := omega) only [push_cast, ↓zz, seval, hPr, hPf, hge, hw, hpg, hpt]) | (with_reducible first | refine And.intro ?_ ?_ | (first | refine z01 ?_ ?_ | refine z00 ?_ ?_) <;> intro hc <;> (try simp only [push_cast] at hc)) | ((with_reducible first | refine eK hS ?_ | refine eQ hS ?_ | refine eG hS ?_)) | ((with_reducible first | refine cK hS ?_ | refine cQ hS ?_ | refine cG hS ?_); (simp (disch := omega) only [push_cast, ↓zz, seval, hPr, hPf, hge, hw, hpg, hpt]); (fail_if_success (with_reducible change False))) | omega | with_reducible intro _))
       all_goals
         refine ⟨j + 1, ?_⟩
         (repeat' (first | (simp (disch := omega) only [push_cast, ↓zz, seval, hst]) | (with_reducible first | refine And.intro ?_ ?_ | (first | refine z01 ?_ ?_ | refine z00 ?_ ?_) <;> intro hc <;> (try simp only [push_cast] at hc)) | omega | with_reducible intro _))
       all_goals first
         | omega
         | trace_state
     · have hjt : d.finals.take j = d.finals := List.take_of_length_le hjl
       rw [hjt]
       refine W_T ?_
       (repeat' (first | (simp (disch := omega) only [push_cast, ↓zz, seval, hPr, hPf]) | (with_reducible first | refine And.intro ?_ ?_ | (first | refine z01 ?_ ?_ | refine z00 ?_ ?_) <;> intro hc <;> (try simp only [push_cast] at hc)) | omega | with_reducible intro _))
 · rw [zbs, decide_eq_false hb, Bool.false_and]
   (repeat' (first | (simp (disch := omega) only [push_cast, ↓zz, seval]) | (with_reducible first | refine And.intro ?_ ?_ | (first | refine z01 ?_ ?_ | refine z00 ?_ ?_) <;> intro hc <;> (try simp only [push_cast] at hc)) | omega | with_reducible intro _))
   all_goals trace_state
theorem zga {gs : List (List Span)} {out : List Term} (h : z73 gs out ≤ 1500) : ∀ t ∈ out, t.parts.length < 4000 := by
 unfold z73 at h
 split at h
 · omega
 · intro t ht
   have h1 := z8a (fun t => (zph t).1) ht
   have h2 := (z4y zpg gs).1
   have h3 : szT t = 1 + min (t.parts.length : Int) 4000 := rfl
   omega
theorem zwp {d : Desc} (h : zbs d = true) : z63 d := by
 simp only [zbs, Bool.and_eq_true, decide_eq_true_eq] at h
 have sR : ∀ r, 0 ≤ szR r ∧ szR r ≤ 2000000 := fun r => zau _ _
 have sF : ∀ f, 0 ≤ szF f ∧ szF f ≤ 2000000 := fun r => zau _ _
 have a1 := (z4y sR d.rules).1
 have a2 := (z4y sF d.finals).1
 refine ⟨fun r hr t ht => ?_, fun f hf t ht => ?_⟩
 · have h1 := z8a (fun r => (sR r).1) hr
   have h2 : szR r = z73 r.guards r.out := rfl
   have := zga (gs := r.guards) (out := r.out) (by omega) t ht
   omega
 · have h1 := z8a (fun r => (sF r).1) hf
   have h2 : szF f = z73 f.guards f.out := rfl
   have := zga (gs := f.guards) (out := f.out) (by omega) t ht
   omega
structure zwq (d : Desc) : Prop where
 fin : z63 d
 rg : ∀ r ∈ d.rules, r.guards.length ≤ 9223372036854775807
 fg : ∀ f ∈ d.finals, f.guards.length ≤ 9223372036854775807
structure Hold (p : Prop) : Prop where
 get : p
theorem z6k {α : Type} [DecidableEq α] [Inhabited α] {l m : List α} {k : Nat} (h1 : k < l.length) (h2 : k < m.length) : decide (l.drop k = m.drop k) = (decide (nth l k = nth m k) && decide (l.drop (k + 1) = m.drop (k + 1))) := by
 rw [drop_at h1, drop_at h2]
 simp
theorem z8o (a b : List (List Span)) (hl : a.length ≤ 1000000000000) (ha : ∀ l ∈ a, l.length ≤ 1000000000000) : PC Try.prog 40 [z0d a, z0d b] (.bool (decide (a = b))) := by
 refine z0v zbw ?_
 unfold z6y
 (repeat' (first | (simp (disch := omega) only [push_cast, ↓zz, seval]) | (with_reducible first | refine And.intro ?_ ?_ | (first | refine z01 ?_ ?_ | refine z00 ?_ ?_) <;> intro hc <;> (try simp only [push_cast] at hc)) | omega | with_reducible intro _))
 · have : a ≠ b := by intro h; subst h; first | omega | simp_all
   simp [this]
 refine z0n (z0p (fun (k : Nat) => k ≤ a.length ∧ decide (a = b) = decide (a.drop k = b.drop k)) (fun k => a.length - k)
   (fun k => [(0, z0d a), (1, z0d b), (5, .int .i64 k)]) (fun _ => []) (fun _ _ => []) 0 (by simp) ?_ ?_)
 · (repeat' (first | (simp (disch := omega) only [push_cast, ↓zz, seval]) | (with_reducible first | refine And.intro ?_ ?_ | (first | refine z01 ?_ ?_ | refine z00 ?_ ?_) <;> intro hc <;> (try simp only [push_cast] at hc)) | omega | with_reducible intro _))
 rintro k ⟨hk, hr⟩
 refine W_T ?_
 (repeat' (first | (simp (disch := omega) only [push_cast, ↓zz, seval]) | (with_reducible first | refine And.intro ?_ ?_ | (first | refine z01 ?_ ?_ | refine z00 ?_ ?_) <;> intro hc <;> (try simp only [push_cast] at hc)) | (have q_ := zfz (nth a k) (nth b k) (ha _ (z1o (by omega))); (with_reducible first | refine eK q_ ?_ | refine eQ q_ ?_ | refine eG q_ ?_); clear q_) | (have q_ := zfz (nth a k) (nth b k) (ha _ (z1o (by omega))); (with_reducible first | refine cK q_ ?_ | refine cQ q_ ?_ | refine cG q_ ?_); clear q_; (simp (disch := omega) only [push_cast, ↓zz, seval]); (fail_if_success (with_reducible change False))) | omega | with_reducible intro _))
 all_goals first
   | (rw [hr, List.drop_of_length_le (by omega), List.drop_of_length_le (by omega)]; simp; done)
   | (rw [hr, z6k (by omega) (by omega)]; simp_all; done)
   | (refine ⟨k + 1, ?_⟩
      (repeat' (first | (simp (disch := omega) only [push_cast, ↓zz, seval]) | (with_reducible first | refine And.intro ?_ ?_ | (first | refine z01 ?_ ?_ | refine z00 ?_ ?_) <;> intro hc <;> (try simp only [push_cast] at hc)) | omega | with_reducible intro _))
      rw [hr, z6k (by omega) (by omega)]; simp_all; done)
   | trace_state
theorem z7n (a b : List Term) (hl : a.length ≤ 1000000000000) (ha : ∀ t ∈ a, t.parts.length ≤ 1000000000000) : PC Try.prog 41 [z37 a, z37 b] (.bool (decide (a = b))) := by
 refine z0v zaj ?_
 unfold z6a
 (repeat' (first | (simp (disch := omega) only [push_cast, ↓zz, seval]) | (with_reducible first | refine And.intro ?_ ?_ | (first | refine z01 ?_ ?_ | refine z00 ?_ ?_) <;> intro hc <;> (try simp only [push_cast] at hc)) | omega | with_reducible intro _))
 · have : a ≠ b := by intro h; subst h; first | omega | simp_all
   simp [this]
 refine z0n (z0p (fun (k : Nat) => k ≤ a.length ∧ decide (a = b) = decide (a.drop k = b.drop k)) (fun k => a.length - k)
   (fun k => [(0, z37 a), (1, z37 b), (5, .int .i64 k)]) (fun _ => []) (fun _ _ => []) 0 (by simp) ?_ ?_)
 · (repeat' (first | (simp (disch := omega) only [push_cast, ↓zz, seval]) | (with_reducible first | refine And.intro ?_ ?_ | (first | refine z01 ?_ ?_ | refine z00 ?_ ?_) <;> intro hc <;> (try simp only [push_cast] at hc)) | omega | with_reducible intro _))
 rintro k ⟨hk, hr⟩
 refine W_T ?_
 (repeat' (first | (simp (disch := omega) only [push_cast, ↓zz, seval]) | (with_reducible first | refine And.intro ?_ ?_ | (first | refine z01 ?_ ?_ | refine z00 ?_ ?_) <;> intro hc <;> (try simp only [push_cast] at hc)) | (have q_ := zot (nth a k) (nth b k) (ha _ (z1o (by omega))); (with_reducible first | refine eK q_ ?_ | refine eQ q_ ?_ | refine eG q_ ?_); clear q_) | (have q_ := zot (nth a k) (nth b k) (ha _ (z1o (by omega))); (with_reducible first | refine cK q_ ?_ | refine cQ q_ ?_ | refine cG q_ ?_); clear q_; (simp (disch := omega) only [push_cast, ↓zz, seval]); (fail_if_success (with_reducible change False))) | omega | with_reducible intro _))
 all_goals first
   | (rw [hr, List.drop_of_length_le (by omega), List.drop_of_length_le (by omega)]; simp; done)
   | (rw [hr, z6k (by omega) (by omega)]; simp_all; done)
   | (refine ⟨k + 1, ?_⟩
      (repeat' (first | (simp (disch := omega) only [push_cast, ↓zz, seval]) | (with_reducible first | refine And.intro ?_ ?_ | (first | refine z01 ?_ ?_ | refine z00 ?_ ?_) <;> intro hc <;> (try simp only [push_cast] at hc)) | omega | with_reducible intro _))
      rw [hr, z6k (by omega) (by omega)]; simp_all; done)
   | trace_state
structure zgb (gs : List (List Span)) (out : List Term) : Prop where
 g : gs.length ≤ 1000000000000
 gl : ∀ l ∈ gs, l.length ≤ 1000000000000
 o : out.length ≤ 1000000000000
 ol : ∀ t ∈ out, t.parts.length ≤ 1000000000000
theorem zep (a b : Rule) (h : zgb a.guards a.out) : PC Try.prog 39 [zbu a, zbu b] (.bool (decide (a = b))) := by
 have h1 := z8o a.guards b.guards h.g h.gl
 have h2 := z7n a.out b.out h.o h.ol
 have e : decide (a = b) = (decide (a.from_ = b.from_) && (decide (a.to_ = b.to_) && (decide (a.eat = b.eat) && (decide (a.guards = b.guards) && decide (a.out = b.out))))) := by
   cases a; cases b; simp only [Rule.mk.injEq]; simp only [Bool.decide_and]; ac_rfl
 have p1 := z07 a.guards
 have p2 := z07 b.guards
 have p3 := z0z a.out
 have p4 := z0z b.out
 refine z0v zbv ?_
 unfold z6x
 (repeat' (first | (simp (disch := omega) only [push_cast, ↓zz, seval, p1, p2, p3, p4]) | (with_reducible first | refine And.intro ?_ ?_ | (first | refine z01 ?_ ?_ | refine z00 ?_ ?_) <;> intro hc <;> (try simp only [push_cast] at hc)) | ((with_reducible first | refine eK h1 ?_ | refine eQ h1 ?_ | refine eG h1 ?_)) | ((with_reducible first | refine eK h2 ?_ | refine eQ h2 ?_ | refine eG h2 ?_)) | ((with_reducible first | refine cK h1 ?_ | refine cQ h1 ?_ | refine cG h1 ?_); (simp (disch := omega) only [push_cast, ↓zz, seval, p1, p2, p3, p4]); (fail_if_success (with_reducible change False))) | ((with_reducible first | refine cK h2 ?_ | refine cQ h2 ?_ | refine cG h2 ?_); (simp (disch := omega) only [push_cast, ↓zz, seval, p1, p2, p3, p4]); (fail_if_success (with_reducible change False))) | omega | with_reducible intro _))
 all_goals rw [e]; simp_all
structure zpi (d : Desc) : Prop where
 r : d.rules.length ≤ 1000000000000
 rs : ∀ r ∈ d.rules, zgb r.guards r.out
 f : d.finals.length ≤ 1000000000000
 fs : ∀ f ∈ d.finals, zgb f.guards f.out
theorem zsa {a b : Desc} (h1 : a.in_ = b.in_) (h2 : a.out = b.out) (h3 : a.states = b.states) (h4 : a.start = b.start) : decide (a = b) = (decide (a.rules = b.rules) && decide (a.finals = b.finals)) := by
 cases a; cases b; simp only at h1 h2 h3 h4; subst h1 h2 h3 h4
 simp
theorem y0z (x y : z5m) : decide (x = y) = (decide (x.from_ = y.from_) && (decide (x.guards = y.guards) && decide (x.out = y.out))) := by
 cases x; cases y; simp
theorem zgc (a b : Desc) (h : zpi a) : PC Try.prog 17 [z2r a, z2r b] (.bool (decide (a = b))) := by
 have pa1 := z1a a.rules
 have pa2 := z1b a.finals
 have pb1 := z1a b.rules
 have pb2 := z1b b.finals
 have har := h.r
 have haf := h.f
 refine z0v zjk ?_
 unfold zb4
 (repeat' (first | (simp (disch := omega) only [push_cast, ↓zz, seval, pa1, pa2, pb1, pb2]) | (with_reducible first | refine And.intro ?_ ?_ | (first | refine z01 ?_ ?_ | refine z00 ?_ ?_) <;> intro hc <;> (try simp only [push_cast] at hc)) | omega | with_reducible intro _))
 all_goals first
   | (have : a ≠ b := by intro h; subst h; simp_all
      simp [this]; done)
   | skip
 all_goals
   have hab := zsa (a := a) (b := b) (by assumption) (by assumption) (by assumption) (by assumption)
   have hrl : a.rules.length = b.rules.length := by omega
   have hfl : a.finals.length = b.finals.length := by omega
   rw [hab]
   refine z0n (z0p (fun (k : Nat) => k ≤ a.rules.length ∧ decide (a.rules = b.rules) = decide (a.rules.drop k = b.rules.drop k)) (fun k => a.rules.length - k)
     (fun k => [(2, .ptr 0 1 0 0), (3, .ptr 1 1 0 0), (5, .int .i64 k)]) (fun _ => [⟨6, 1, true, [z2r a]⟩, ⟨6, 1, true, [z2r b]⟩]) (fun env _ => [z0r 6 (env 2), z0r 6 (env 3)]) 0 (by simp) ?_ ?_)
   · (repeat' (first | (simp (disch := omega) only [push_cast, ↓zz, seval, pa1, pa2, pb1, pb2]) | (with_reducible first | refine And.intro ?_ ?_ | (first | refine z01 ?_ ?_ | refine z00 ?_ ?_) <;> intro hc <;> (try simp only [push_cast] at hc)) | omega | with_reducible intro _))
   rintro k ⟨hk, hr⟩
   refine W_T ?_
   rcases Nat.lt_or_ge k a.rules.length with hkl | hkl
   · have hS := zep (nth a.rules k) (nth b.rules k) (h.rs _ (z1o hkl))
     have hp1 := z1a a.rules
     rw [z6k hkl (by omega)] at hr
     generalize hx : nth a.rules k = x at *
     generalize hy : nth b.rules k = y at *
     (repeat' (first | (simp (disch := omega) only [push_cast, ↓zz, seval, pa1, pa2, pb1, pb2, hx, hy]) | (with_reducible first | refine And.intro ?_ ?_ | (first | refine z01 ?_ ?_ | refine z00 ?_ ?_) <;> intro hc <;> (try simp only [push_cast] at hc)) | ((with_reducible first | refine eK hS ?_ | refine eQ hS ?_ | refine eG hS ?_)) | ((with_reducible first | refine cK hS ?_ | refine cQ hS ?_ | refine cG hS ?_); (simp (disch := omega) only [push_cast, ↓zz, seval, pa1, pa2, pb1, pb2, hx, hy]); (fail_if_success (with_reducible change False))) | omega | with_reducible intro _))
     all_goals first
       | (refine ⟨k + 1, ?_⟩
          (repeat' (first | (simp (disch := omega) only [push_cast, ↓zz, seval]) | (with_reducible first | refine And.intro ?_ ?_ | (first | refine z01 ?_ ?_ | refine z00 ?_ ?_) <;> intro hc <;> (try simp only [push_cast] at hc)) | omega | with_reducible intro _))
          rw [hr]; simp_all; done)
       | (simp_all; done)
       | trace_state
   · have hke : k = a.rules.length := by omega
     subst hke
     have hre : decide (a.rules = b.rules) = true := by rw [hr, List.drop_of_length_le (by omega), List.drop_of_length_le (by omega)]; simp
     rw [hre, Bool.true_and]
     clear hr hre hab
     (repeat' (first | (simp (disch := omega) only [push_cast, ↓zz, seval, pa1, pa2, pb1, pb2]) | (with_reducible first | refine And.intro ?_ ?_ | (first | refine z01 ?_ ?_ | refine z00 ?_ ?_) <;> intro hc <;> (try simp only [push_cast] at hc)) | omega | with_reducible intro _))
     refine z0n (z0p (fun (k : Nat) => k ≤ a.finals.length ∧ decide (a.finals = b.finals) = decide (a.finals.drop k = b.finals.drop k)) (fun k => a.finals.length - k)
       (fun k => [(2, .ptr 0 1 0 0), (3, .ptr 1 1 0 0), (6, .int .i64 k)]) (fun _ => [⟨6, 1, true, [z2r a]⟩, ⟨6, 1, true, [z2r b]⟩]) (fun env _ => [z0r 6 (env 2), z0r 6 (env 3)]) 0 (by simp) ?_ ?_)
     · (repeat' (first | (simp (disch := omega) only [push_cast, ↓zz, seval, pa1, pa2, pb1, pb2]) | (with_reducible first | refine And.intro ?_ ?_ | (first | refine z01 ?_ ?_ | refine z00 ?_ ?_) <;> intro hc <;> (try simp only [push_cast] at hc)) | omega | with_reducible intro _))
     rintro k ⟨hk, hr⟩
     refine W_T ?_
     rcases Nat.lt_or_ge k a.finals.length with hkl | hkl
     · have hOk := h.fs _ (z1o hkl)
       rw [z6k hkl (by omega)] at hr
       generalize hx : nth a.finals k = x at *
       generalize hy : nth b.finals k = y at *
       have h1 := z8o x.guards y.guards hOk.g hOk.gl
       have h2 := z7n x.out y.out hOk.o hOk.ol
       have p1 := z07 x.guards
       have p2 := z07 y.guards
       have p3 := z0z x.out
       have p4 := z0z y.out
       have hxy := y0z x y
       (repeat' (first | (simp (disch := omega) only [push_cast, ↓zz, seval, yy, List.mem_cons, List.not_mem_nil, or_false, false_or, not_or, not_false_eq_true, true_or, or_true, pa1, pa2, pb1, pb2, hx, hy, p1, p2, p3, p4]) | (with_reducible first | refine And.intro ?_ ?_ | (first | refine z01 ?_ ?_ | refine z00 ?_ ?_) <;> intro hc <;> (try simp only [push_cast] at hc)) | ((with_reducible refine zh4 [2, 3] [3, 3] [none, none, none, none, none, none, none, none, none, none, some 2, some 3] (by decide) (by decide) ?_)) | ((with_reducible first | refine eK h1 ?_ | refine eQ h1 ?_ | refine eG h1 ?_)) | ((with_reducible first | refine eK h2 ?_ | refine eQ h2 ?_ | refine eG h2 ?_)) | ((with_reducible first | refine cK h1 ?_ | refine cQ h1 ?_ | refine cG h1 ?_); (simp (disch := omega) only [push_cast, ↓zz, seval, yy, List.mem_cons, List.not_mem_nil, or_false, false_or, not_or, not_false_eq_true, true_or, or_true, pa1, pa2, pb1, pb2, hx, hy, p1, p2, p3, p4]); (fail_if_success (with_reducible change False))) | ((with_reducible first | refine cK h2 ?_ | refine cQ h2 ?_ | refine cG h2 ?_); (simp (disch := omega) only [push_cast, ↓zz, seval, yy, List.mem_cons, List.not_mem_nil, or_false, false_or, not_or, not_false_eq_true, true_or, or_true, pa1, pa2, pb1, pb2, hx, hy, p1, p2, p3, p4]); (fail_if_success (with_reducible change False))) | omega | with_reducible intro _))
       all_goals first
         | (refine ⟨k + 1, ?_⟩
            (repeat' (first | (simp (disch := omega) only [push_cast, ↓zz, seval]) | (with_reducible first | refine And.intro ?_ ?_ | (first | refine z01 ?_ ?_ | refine z00 ?_ ?_) <;> intro hc <;> (try simp only [push_cast] at hc)) | omega | with_reducible intro _))
            rw [hr]; simp_all; done)
         | (simp_all; done)
         | trace_state
     · rw [hr, List.drop_of_length_le (by omega), List.drop_of_length_le (by omega)]
       (repeat' (first | (simp (disch := omega) only [push_cast, ↓zz, seval, pa1, pa2, pb1, pb2]) | (with_reducible first | refine And.intro ?_ ?_ | (first | refine z01 ?_ ?_ | refine z00 ?_ ?_) <;> intro hc <;> (try simp only [push_cast] at hc)) | omega | with_reducible intro _))
       all_goals simp
       all_goals trace_state
end Go.Proofs.Yticodgjinajkpaa
namespace Go.Proofs.Yticodgjinajkpaa
open Abs
theorem zee {gs : List (List Span)} {out : List Term} (h : z73 gs out ≤ 1500) : gs.length ≤ 100 := by
 unfold z73 at h
 split at h
 · omega
 · omega
theorem zmx {d : Desc} (h : zbs d = true) : zwq d := by
 refine ⟨zwp h, ?_, ?_⟩
 all_goals
   simp only [zbs, Bool.and_eq_true, decide_eq_true_eq] at h
   have sR : ∀ r, 0 ≤ szR r ∧ szR r ≤ 2000000 := fun r => zau _ _
   have sF : ∀ f, 0 ≤ szF f ∧ szF f ≤ 2000000 := fun r => zau _ _
   have a1 := (z4y sR d.rules).1
   have a2 := (z4y sF d.finals).1
 · intro r hr
   have h1 := z8a (fun r => (sR r).1) hr
   have h2 : szR r = z73 r.guards r.out := rfl
   have := zee (gs := r.guards) (out := r.out) (by omega)
   omega
 · intro f hf
   have h1 := z8a (fun r => (sF r).1) hf
   have h2 : szF f = z73 f.guards f.out := rfl
   have := zee (gs := f.guards) (out := f.out) (by omega)
   omega
theorem zkr {i o : Int} {d : Desc} {gs : List (List Span)} {out : List Term} (hg : z4g d.in_ gs = true) (hw : z5i d out gs = true) : zgb gs out := by
 obtain ⟨g1, g2⟩ := z5t hg
 obtain ⟨w1, w2⟩ := z5u hw
 exact ⟨by omega, fun l hl => by have := g2 l hl; omega, by omega, fun t ht => by have := w2 t ht; omega⟩
theorem zmy {d : Desc} {r : Rule} (h : z6g d r = true) : zgb r.guards r.out := by
 simp only [z6g, Bool.and_eq_true] at h
 exact zkr (i := 0) (o := 0) h.2.2.1 h.2.2.2.2
theorem zks {d : Desc} {f : z5m} (h : z4h d f = true) : zgb f.guards f.out := by
 simp only [z4h, Bool.and_eq_true] at h
 exact zkr (i := 0) (o := 0) h.2.1 h.2.2
theorem zmz {d : Desc} (h : z2s d = 0) : zpi d := by
 obtain ⟨h1, h2, h3⟩ := z59 h
 have hw := z8f h
 have h4 := hw.rl
 have h5 := hw.fl
 exact ⟨by omega, fun r hr => zmy (h2 r hr), by omega, fun f hf => zks (h3 f hf)⟩
theorem zwr (u : Nat → Bool) {i j : Nat} (h : i ≤ j) : cntB u i ≤ cntB u j := by
 induction j with
 | zero => have : i = 0 := by omega
           subst this; exact Nat.le_refl _
 | succ j ih =>
   by_cases e : i = j + 1
   · subst e; exact Nat.le_refl _
   · have h1 := ih (by omega)
     have h2 := z4x u j
     split at h2 <;> omega
theorem zi4 {u : Nat → Bool} {i j : Nat} (hu : u i = true) (h : i < j) : cntB u i < cntB u j := by
 have h1 := z4x u i
 rw [if_pos hu] at h1
 have h2 := zwr u (show i + 1 ≤ j by omega)
 omega
theorem y10 {u : Nat → Bool} {i j : Nat} (hi : u i = true) (hj : u j = true) (h : cntB u i = cntB u j) : i = j := by
 rcases Nat.lt_trichotomy i j with h1 | h1 | h1
 · have := zi4 hi h1; omega
 · exact h1
 · have := zi4 hj h1; omega
theorem za7 {u : Nat → Bool} : ∀ {n j : Nat}, j < cntB u n → ∃ i, i < n ∧ u i = true ∧ cntB u i = j
 | 0, j, h => by simp [cntB] at h
 | n + 1, j, h => by
   have h1 := z4x u n
   by_cases e : u n = true
   · rw [if_pos e] at h1
     by_cases e2 : j = cntB u n
     · exact ⟨n, by omega, e, e2.symm⟩
     · obtain ⟨i, a, b, c⟩ := za7 (u := u) (n := n) (j := j) (by omega)
       exact ⟨i, by omega, b, c⟩
   · rw [if_neg e] at h1
     obtain ⟨i, a, b, c⟩ := za7 (u := u) (n := n) (j := j) (by omega)
     exact ⟨i, by omega, b, c⟩
theorem za8 (n : Nat) {u : Nat → Bool} (h : ∀ i, i < n → u i = true) : ∀ k, k ≤ n → cntB u k = k
 | 0, _ => rfl
 | k + 1, hk => by rw [z4x, if_pos (h k (by omega)), za8 n h k (by omega)]
section
variable {d : Desc}
theorem z7o {s t : Int} : (s, t) ∈ fwdE d ↔ ∃ r ∈ d.rules, r.from_ = s ∧ r.to_ = t := by simp [fwdE]
theorem zi5 {s t : Int} : (t, s) ∈ bwdE d ↔ ∃ r ∈ d.rules, r.from_ = s ∧ r.to_ = t := by
 simp only [bwdE, List.mem_map, Prod.mk.injEq]
 constructor
 · rintro ⟨r, hr, h1, h2⟩; exact ⟨r, hr, h2, h1⟩
 · rintro ⟨r, hr, h1, h2⟩; exact ⟨r, hr, h2, h1⟩
theorem zws {s : Int} : s ∈ endE d ↔ ∃ f ∈ d.finals, f.from_ = s := by simp [endE]
theorem za9 {s : Int} (hs : 0 ≤ s) : z2x d s.toNat = true ↔ Reach (fwdE d) [d.start] s ∧ Reach (bwdE d) (endE d) s := by
 rw [z2x, Bool.and_eq_true, z3t, z3t, Int.toNat_of_nonneg hs]
noncomputable def z8g (d : Desc) : Desc := ⟨d.in_, d.out, cntB (z2x d) d.states.toNat, numB (z2x d) d.start.toNat, z72 (z2x d) d.rules, z7l (z2x d) d.finals⟩
theorem zef {u : Nat → Bool} {l : List Rule} {r' : Rule} : r' ∈ z72 u l ↔ ∃ r ∈ l, (u r.from_.toNat = true ∧ u r.to_.toNat = true) ∧ (⟨numB u r.from_.toNat, numB u r.to_.toNat, r.guards, r.eat, r.out⟩ : Rule) = r' := by
 simp only [z72, List.mem_map, List.mem_filter, Bool.and_eq_true, and_assoc]
theorem zkt {u : Nat → Bool} {l : List z5m} {f' : z5m} : f' ∈ z7l u l ↔ ∃ f ∈ l, u f.from_.toNat = true ∧ (⟨numB u f.from_.toNat, f.guards, f.out⟩ : z5m) = f' := by
 simp only [z7l, List.mem_map, List.mem_filter, and_assoc]
theorem zgd (h : z2s d = 0) (hg : Reach (bwdE d) (endE d) d.start) : z2x d d.start.toNat = true := (za9 (z8f h).start.1).2 ⟨.base (by simp), hg⟩
theorem z7p (h : z2s d = 0) (hg : Reach (bwdE d) (endE d) d.start) : numB (z2x d) d.start.toNat = cntB (z2x d) d.start.toNat ∧ cntB (z2x d) d.start.toNat < cntB (z2x d) d.states.toNat ∧ (cntB (z2x d) d.states.toNat : Int) ≤ d.states := by
 have hw := z8f h
 obtain ⟨n, hn, hn1, hn2⟩ := hw.n
 have hs := hw.start
 have h1 := zgd h hg
 have h2 := zea (z2x d) d.states.toNat
 exact ⟨z40 h1, zi4 h1 (by omega), by omega⟩
theorem zn0 (h : z2s d = 0) (hg : Reach (bwdE d) (endE d) d.start) : z2s (z8g d) = 0 := by
 have hw := z8f h
 obtain ⟨w1, w2, w3⟩ := z59 h
 obtain ⟨n, hn, hn1, hn2⟩ := hw.n
 obtain ⟨s1, s2, s3⟩ := z7p h hg
 have l1 := zkn (z2x d) d.rules
 have l2 := zko (z2x d) d.finals
 have hrl := hw.rl
 have hfl := hw.fl
 have st : ∀ x : Int, 0 ≤ x ∧ x < d.states → z2x d x.toNat = true → z5s (z8g d) (numB (z2x d) x.toNat) = true := fun x hx hu => by
   rw [z40 hu]
   have := zi4 hu (show x.toNat < d.states.toNat by omega)
   show (decide (0 ≤ ((cntB (z2x d) x.toNat : Nat) : Int)) && decide (((cntB (z2x d) x.toNat : Nat) : Int) < ((cntB (z2x d) d.states.toNat : Nat) : Int))) = true
   rw [Bool.and_eq_true, decide_eq_true_eq, decide_eq_true_eq]
   omega
 refine (z6v ?_ (fun r' hr' => ?_) (fun f' hf' => ?_) ?_).2
 · have hst := st d.start hw.start (zgd h hg)
   simp only [ze3, Bool.and_eq_true, decide_eq_true_eq] at w1 ⊢
   refine ⟨w1.1, w1.2.1, ?_, ?_, hst, ?_, ?_⟩ <;> simp only [z8g] <;> omega
 · obtain ⟨r, hr, ⟨u1, u2⟩, rfl⟩ := zef.1 hr'
   have hb := w2 r hr
   have hr2 := hw.r r hr
   simp only [z6g, Bool.and_eq_true] at hb ⊢
   exact ⟨st _ hr2.1 u1, st _ hr2.2 u2, hb.2.2.1, hb.2.2.2.1, hb.2.2.2.2⟩
 · obtain ⟨f, hf, u1, rfl⟩ := zkt.1 hf'
   have hb := w3 f hf
   have hf2 := hw.f f hf
   simp only [z4h, Bool.and_eq_true] at hb ⊢
   exact ⟨st _ hf2 u1, hb.2.1, hb.2.2⟩
 · have hcy : ¬ cycP d.rules d.states.toNat := by
     intro hc
     have e : z5j d = (4, 0) := by
       rw [z5j, if_neg (by simp [w1]), za4 w2]
       simp only
       rw [za4 w3]
       simp only
       rw [if_pos hc]
     rw [z2s, e] at h
     simp at h
   rintro ⟨C, hC, j, hj⟩
   refine hcy ⟨fun x => 0 ≤ x ∧ x < d.states ∧ z2x d x.toNat = true ∧ C (cntB (z2x d) x.toNat : Nat), fun x hx => ?_, ?_⟩
   · obtain ⟨x1, x2, x3, x4⟩ := hx
     refine ⟨by omega, ?_⟩
     obtain ⟨_, r', hr', e1, e2, e3⟩ := hC _ x4
     obtain ⟨r, hr, ⟨u1, u2⟩, rfl⟩ := zef.1 hr'
     have hr2 := hw.r r hr
     simp only [z40 u1, z40 u2] at e2 e3
     have e4 := y10 u2 x3 (by omega)
     exact ⟨r, hr, e1, by omega, by omega, by omega, u1, e3⟩
   · obtain ⟨hj2, _⟩ := hC j hj
     simp only [z8g, Int.toNat_natCast] at hj2
     obtain ⟨i, i1, i2, i3⟩ := za7 (u := z2x d) (n := d.states.toNat) (j := j.toNat) (by omega)
     refine ⟨i, by omega, by omega, by simpa using i2, ?_⟩
     rw [Int.toNat_natCast, i3, Int.toNat_of_nonneg hj2.1]
     exact hj
theorem zku (h : z2s d = 0) (hg : Reach (bwdE d) (endE d) d.start) {s t : Int} (hst : (s, t) ∈ fwdE d) (ht : Reach (bwdE d) (endE d) t) : Reach (bwdE d) (endE d) s := by
 obtain ⟨r, hr, rfl, rfl⟩ := z7o.1 hst
 exact .step ht (zi5.2 ⟨r, hr, rfl, rfl⟩)
theorem zkv (h : z2s d = 0) (hg : Reach (bwdE d) (endE d) d.start) {r : Rule} (hr : r ∈ d.rules) (c1 : Reach (fwdE d) [d.start] r.from_) (g2 : Reach (bwdE d) (endE d) r.to_) :
   (((cntB (z2x d) r.from_.toNat : Nat) : Int), ((cntB (z2x d) r.to_.toNat : Nat) : Int)) ∈ fwdE (z8g d) := by
 have hr2 := (z8f h).r r hr
 have c2 : Reach (fwdE d) [d.start] r.to_ := .step c1 (z7o.2 ⟨r, hr, rfl, rfl⟩)
 have g1 := zku h hg (z7o.2 ⟨r, hr, rfl, rfl⟩) g2
 have u1 := (za9 hr2.1.1).2 ⟨c1, g1⟩
 have u2 := (za9 hr2.2.1).2 ⟨c2, g2⟩
 exact z7o.2 ⟨_, zef.2 ⟨r, hr, ⟨u1, u2⟩, rfl⟩, z40 u1, z40 u2⟩
theorem zsb (h : z2s d = 0) (hg : Reach (bwdE d) (endE d) d.start) {s : Int} (hc : Reach (fwdE d) [d.start] s) : Reach (bwdE d) (endE d) s → Reach (fwdE (z8g d)) [(z8g d).start] (cntB (z2x d) s.toNat : Nat) := by
 induction hc with
 | base hs =>
   intro _
   simp only [List.mem_singleton] at hs
   subst hs
   exact .base (by simp [z8g, (z7p h hg).1])
 | @step s t h1 h2 ih =>
   intro ht
   have hs := zku h hg h2 ht
   obtain ⟨r, hr, rfl, rfl⟩ := z7o.1 h2
   exact .step (ih hs) (zkv h hg hr h1 ht)
theorem zwt (h : z2s d = 0) (hg : Reach (bwdE d) (endE d) d.start) {s : Int} (hc : Reach (bwdE d) (endE d) s) : Reach (fwdE d) [d.start] s → Reach (bwdE (z8g d)) (endE (z8g d)) (cntB (z2x d) s.toNat : Nat) := by
 induction hc with
 | @base s hs =>
   intro hcs
   obtain ⟨f, hf, rfl⟩ := zws.1 hs
   have hf2 := (z8f h).f f hf
   have u1 := (za9 hf2.1).2 ⟨hcs, .base hs⟩
   exact .base (zws.2 ⟨_, zkt.2 ⟨f, hf, u1, rfl⟩, z40 u1⟩)
 | @step t s h1 h2 ih =>
   intro hs
   obtain ⟨r, hr, rfl, rfl⟩ := zi5.1 h2
   have ht : Reach (fwdE d) [d.start] r.to_ := .step hs (z7o.2 ⟨r, hr, rfl, rfl⟩)
   have hk := zkv h hg hr hs h1
   obtain ⟨r', hr', e1, e2⟩ := z7o.1 hk
   exact .step (ih ht) (zi5.2 ⟨r', hr', e1, e2⟩)
theorem zwu (h : z2s d = 0) (hg : Reach (bwdE d) (endE d) d.start) (j : Nat) (hj : j < (z8g d).states.toNat) : z3b (fwdE (z8g d)) [(z8g d).start] j = true ∧ z3b (bwdE (z8g d)) (endE (z8g d)) j = true := by
 simp only [z8g, Int.toNat_natCast] at hj
 obtain ⟨i, i1, i2, i3⟩ := za7 (u := z2x d) (n := d.states.toNat) (j := j) hj
 have hu := (za9 (d := d) (s := (i : Int)) (by omega)).1 (by simpa using i2)
 have a := zsb h hg hu.1 hu.2
 have b := zwt h hg hu.2 hu.1
 rw [Int.toNat_natCast, i3] at a b
 exact ⟨z3t.2 a, z3t.2 b⟩
end
theorem zeg (l : List Bool) : ∀ k, k ≤ l.length → (∀ i, i < k → nth l i = true) → (z7k l k).length = k
 | 0, _, _ => rfl
 | k + 1, hk, h => by rw [zas, if_pos (h k (by omega)), List.length_append, zeg l k (by omega) fun i hi => h i (by omega)]; rfl
theorem zkw {c : Desc} (h : z2s c = 0) (ha : ∀ j, j < c.states.toNat → z3b (fwdE c) [c.start] j = true ∧ z3b (bwdE c) (endE c) j = true) : z54 c = c ∧ (z5k c).length = c.states.toNat ∧ (z97 c).length = c.states.toNat := by
 have hw := z8f h
 obtain ⟨n, hn, hn1, hn2⟩ := hw.n
 have hs := hw.start
 have hst : c.states.toNat = n := by omega
 have hu : ∀ j, j < n → z2x c j = true := fun j hj => by
   obtain ⟨a, b⟩ := ha j (by omega)
   rw [z2x, a, b]; rfl
 have hnum : ∀ x : Int, 0 ≤ x ∧ x < c.states → numB (z2x c) x.toNat = x ∧ z2x c x.toNat = true := fun x hx => by
   have h1 := hu x.toNat (by omega)
   rw [z40 h1, za8 n hu x.toNat (by omega)]
   exact ⟨by omega, h1⟩
 have hR : z72 (z2x c) c.rules = c.rules := by
   have e : (c.rules.filter fun r => z2x c r.from_.toNat && z2x c r.to_.toNat) = c.rules := List.filter_eq_self.2 fun r hr => by
     have := hw.r r hr
     rw [(hnum _ this.1).2, (hnum _ this.2).2]; rfl
   rw [z72, e]
   refine (List.map_congr_left fun r hr => ?_).trans (List.map_id _)
   have := hw.r r hr
   rw [(hnum _ this.1).1, (hnum _ this.2).1]; rfl
 have hF : z7l (z2x c) c.finals = c.finals := by
   have e : (c.finals.filter fun r => z2x c r.from_.toNat) = c.finals := List.filter_eq_self.2 fun r hr => (hnum _ (hw.f r hr)).2
   rw [z7l, e]
   refine (List.map_congr_left fun r hr => ?_).trans (List.map_id _)
   rw [(hnum _ (hw.f r hr)).1]; rfl
 refine ⟨?_, ?_, ?_⟩
 · unfold z54
   rw [if_neg (by rw [(ha c.start.toNat (by omega)).2]; simp), hR, hF, (hnum _ hs).1, hst, za8 n hu n (Nat.le_refl _), ← hn]
 · exact zeg _ _ (by rw [ze9]; exact Nat.le_refl _) fun i hi => by rw [z6t, z5a hi]; exact (ha i hi).1
 · exact zeg _ _ (by rw [zms]; exact Nat.le_refl _) fun i hi => by rw [goL, z5a hi]; exact (ha i hi).2
structure y61 (c : Desc) : Prop where
 check : z2s c = 0
 again : z54 c = c
 all : ((z5k c).length = c.states.toNat ∧ (z97 c).length = c.states.toNat) ∨ (c.states = 1 ∧ c.rules = [] ∧ c.finals = [])
theorem zpj {s : Int} (h : ¬ (s = 1 ∨ s = 2)) : domL s = [] := by
 unfold domL
 rw [if_neg (by omega), if_neg (by omega)]
theorem zwv {d : Desc} (h : z2s d = 0) : (d.in_ = 1 ∨ d.in_ = 2) ∧ (d.out = 1 ∨ d.out = 2) := by
 obtain ⟨w1, _, _⟩ := z59 h
 simp only [ze3, Bool.and_eq_true, decide_eq_true_eq] at w1
 constructor
 · refine Classical.byContradiction fun hh => ?_
   have := w1.1
   rw [zpj hh] at this
   simp at this
 · refine Classical.byContradiction fun hh => ?_
   have := w1.2.1
   rw [zpj hh] at this
   simp at this
theorem zkx {d : Desc} (h : z2s d = 0) : y61 (z54 d) ∧ (z54 d).states ≤ d.states := by
 have hw := z8f h
 obtain ⟨n, hn, hn1, hn2⟩ := hw.n
 have hs := hw.start
 unfold z54
 split
 · have e2 := zmt (zwv h).1 (zwv h).2
   refine ⟨⟨e2.2, ?_, .inr ⟨rfl, rfl, rfl⟩⟩, by simp [z5v]; omega⟩
   unfold z54
   rw [if_pos (by simp [z3b, endE, z5v, zkl])]
   rfl
 · rename_i hb
   have hg : Reach (bwdE d) (endE d) d.start := by
     have : z3b (bwdE d) (endE d) d.start.toNat = true := by simpa using hb
     have := z3t.1 this
     rwa [Int.toNat_of_nonneg hs.1] at this
   have hc := zn0 h hg
   have ht := zkw hc (zwu h hg)
   exact ⟨⟨hc, ht.1, .inl ht.2⟩, (z7p h hg).2.2⟩
theorem zky {d : Desc} (h : z2s d = 0) : z63 d := by
 obtain ⟨h1, h2, h3⟩ := z59 h
 refine ⟨fun r hr t ht => ?_, fun f hf t ht => ?_⟩
 · have := h2 r hr
   simp only [z6g, Bool.and_eq_true] at this
   have := (z5u this.2.2.2.2).2 t ht
   omega
 · have := h3 f hf
   simp only [z4h, Bool.and_eq_true] at this
   have := (z5u this.2.2).2 t ht
   omega
theorem zkz (d : Desc) (hf : z63 d) (h : ¬ z2s d = 0) : PC Try.prog 24 [z2r d] (.tup [zpf, .int .i64 2]) := by
 have hC := z89 d hf
 have e : z2s d = 2 := by
   unfold z2s at h ⊢
   split at h
   · exact absurd rfl h
   · rw [if_neg (by assumption)]
 rw [e] at hC
 have pR := z1a d.rules
 have pF := z1b d.finals
 refine z0v zd4 ?_
 unfold z90
 (repeat' (first | (simp (disch := omega) only [push_cast, ↓zz, seval, pR, pF]) | (with_reducible first | refine And.intro ?_ ?_ | (first | refine z01 ?_ ?_ | refine z00 ?_ ?_) <;> intro hc <;> (try simp only [push_cast] at hc)) | ((with_reducible first | refine eK hC ?_ | refine eQ hC ?_ | refine eG hC ?_)) | ((with_reducible first | refine cK hC ?_ | refine cQ hC ?_ | refine cG hC ?_); (simp (disch := omega) only [push_cast, ↓zz, seval, pR, pF]); (fail_if_success (with_reducible change False))) | omega | with_reducible intro _))
 all_goals trace_state
set_option maxHeartbeats 1000000 in
theorem zi6 (d : Desc) : PC Try.prog 8 [z2r d] (.bool true) := by
 have hA := zed
 have hS := zmw d
 have pR := z1a d.rules
 have pF := z1b d.finals
 cases hsm : zbs d with
 | false =>
   rw [hsm] at hS
   refine z0v z4o ?_
   unfold z3v
   (repeat' (first | (simp (disch := omega) only [push_cast, ↓zz, seval, pR, pF]) | (with_reducible first | refine And.intro ?_ ?_ | (first | refine z01 ?_ ?_ | refine z00 ?_ ?_) <;> intro hc <;> (try simp only [push_cast] at hc)) | ((with_reducible first | refine eK hS ?_ | refine eQ hS ?_ | refine eG hS ?_)) | ((with_reducible first | refine eK hA ?_ | refine eQ hA ?_ | refine eG hA ?_)) | ((with_reducible first | refine cK hS ?_ | refine cQ hS ?_ | refine cG hS ?_); (simp (disch := omega) only [push_cast, ↓zz, seval, pR, pF]); (fail_if_success (with_reducible change False))) | ((with_reducible first | refine cK hA ?_ | refine cQ hA ?_ | refine cG hA ?_); (simp (disch := omega) only [push_cast, ↓zz, seval, pR, pF]); (fail_if_success (with_reducible change False))) | omega | with_reducible intro _))
 | true =>
 rw [hsm] at hS
 have hsh := zmx hsm
 by_cases h : z2s d = 0
 · have hT := za5 d hsh.fin h
   obtain ⟨hTr, hst⟩ := zkx h
   have hf := zky hTr.check
   have hT2 := za5 (z54 d) hf hTr.check
   rw [hTr.again] at hT2
   have hC := zat (z54 d) hf hTr.check
   have hG := z98 (z54 d) hf hTr.check
   have hM := zgc (z54 d) (z54 d) (zmz hTr.check)
   rw [decide_eq_true rfl] at hM
   have hall := hTr.all
   have hw := z8f hTr.check
   obtain ⟨n, hn, hn1, hn2⟩ := hw.n
   have pcR := z1a (z54 d).rules
   have pcF := z1b (z54 d).finals
   have pI : z0h ((z5k (z54 d)).map (AV.int .i64)) = true := z3c .i64 _
   have pJ : z0h ((z97 (z54 d)).map (AV.int .i64)) = true := z3c .i64 _
   clear hTr hf hw
   generalize z54 d = c at *
   generalize z5k c = L at *
   generalize z97 c = M at *
   have hall2 : (L.length = n ∧ M.length = n) ∨ (n = 1 ∧ c.rules.length = 0 ∧ c.finals.length = 0) := by
     rcases hall with ⟨a, b⟩ | ⟨a, b, e⟩
     · exact .inl ⟨by omega, by omega⟩
     · exact .inr ⟨by omega, by rw [b]; rfl, by rw [e]; rfl⟩
   clear hall
   refine z0v z4o ?_
   unfold z3v
   rcases hall2 with ⟨a, b⟩ | ⟨a, b, e⟩
   · have a2 : (L.length : Int) = c.states := by omega
     have b2 : (M.length : Int) = c.states := by omega
     (repeat' (first | (simp (disch := omega) only [push_cast, ↓zz, seval, pR, pF, pcR, pcF, pI, pJ, a2, b2, hst]) | (with_reducible first | refine And.intro ?_ ?_ | (first | refine z01 ?_ ?_ | refine z00 ?_ ?_) <;> intro hc <;> (try simp only [push_cast] at hc)) | ((with_reducible first | refine eK hS ?_ | refine eQ hS ?_)) | ((with_reducible first | refine eK hT ?_ | refine eQ hT ?_)) | ((with_reducible first | refine eK hT2 ?_ | refine eQ hT2 ?_)) | ((with_reducible first | refine eK hC ?_ | refine eQ hC ?_)) | ((with_reducible first | refine eK hG ?_ | refine eQ hG ?_)) | ((with_reducible first | refine eK hM ?_ | refine eQ hM ?_)) | ((with_reducible first | refine eK hA ?_ | refine eQ hA ?_ | refine eG hA ?_)) | ((with_reducible first | refine cK hA ?_ | refine cQ hA ?_ | refine cG hA ?_); (simp (disch := omega) only [push_cast, ↓zz, seval, pR, pF, pcR, pcF, pI, pJ, a2, b2, hst]); (fail_if_success (with_reducible change False))) | omega | with_reducible intro _))
     all_goals first | (exfalso; revert hc; decide) | trace_state
   · obtain ⟨c1, c2, c3, c4, c5, c6⟩ := c
     simp only at hn b e hst pcR pcF
     obtain rfl : c3 = 1 := by omega
     (repeat' (first | (simp (disch := omega) only [push_cast, ↓zz, seval, pR, pF, pcR, pcF, pI, pJ, hst, b, e]) | (with_reducible first | refine And.intro ?_ ?_ | (first | refine z01 ?_ ?_ | refine z00 ?_ ?_) <;> intro hc <;> (try simp only [push_cast] at hc)) | ((with_reducible first | refine eK hS ?_ | refine eQ hS ?_)) | ((with_reducible first | refine eK hT ?_ | refine eQ hT ?_)) | ((with_reducible first | refine eK hT2 ?_ | refine eQ hT2 ?_)) | ((with_reducible first | refine eK hC ?_ | refine eQ hC ?_)) | ((with_reducible first | refine eK hG ?_ | refine eQ hG ?_)) | ((with_reducible first | refine eK hM ?_ | refine eQ hM ?_)) | ((with_reducible first | refine eK hA ?_ | refine eQ hA ?_ | refine eG hA ?_)) | ((with_reducible first | refine cK hA ?_ | refine cQ hA ?_ | refine cG hA ?_); (simp (disch := omega) only [push_cast, ↓zz, seval, pR, pF, pcR, pcF, pI, pJ, hst, b, e]); (fail_if_success (with_reducible change False))) | omega | with_reducible intro _))
     all_goals first | (exfalso; revert hc; decide) | trace_state
 · have hT := zkz d hsh.fin h
   refine z0v z4o ?_
   unfold z3v
   (repeat' (first | (simp (disch := omega) only [push_cast, ↓zz, seval, pR, pF]) | (with_reducible first | refine And.intro ?_ ?_ | (first | refine z01 ?_ ?_ | refine z00 ?_ ?_) <;> intro hc <;> (try simp only [push_cast] at hc)) | ((with_reducible first | refine eK hS ?_ | refine eQ hS ?_ | refine eG hS ?_)) | ((with_reducible first | refine eK hT ?_ | refine eQ hT ?_ | refine eG hT ?_)) | ((with_reducible first | refine eK hA ?_ | refine eQ hA ?_ | refine eG hA ?_)) | ((with_reducible first | refine cK hS ?_ | refine cQ hS ?_ | refine cG hS ?_); (simp (disch := omega) only [push_cast, ↓zz, seval, pR, pF]); (fail_if_success (with_reducible change False))) | ((with_reducible first | refine cK hT ?_ | refine cQ hT ?_ | refine cG hT ?_); (simp (disch := omega) only [push_cast, ↓zz, seval, pR, pF]); (fail_if_success (with_reducible change False))) | ((with_reducible first | refine cK hA ?_ | refine cQ hA ?_ | refine cG hA ?_); (simp (disch := omega) only [push_cast, ↓zz, seval, pR, pF]); (fail_if_success (with_reducible change False))) | omega | with_reducible intro _))
   all_goals trace_state
theorem zsc (a b : Int) : PC Try.prog 17 [z2r (z5v a b), .agg [.int .i64 a, .int .i64 b, .int .i64 1, .int .i64 0, .nilS, .nilS]] (.bool true) := by
 have h := zgc (z5v a b) (z5v a b) ⟨by simp [z5v], fun r hr => (by cases hr), by simp [z5v], fun r hr => (by cases hr)⟩
 rw [decide_eq_true rfl] at h
 exact z5f h (z0e (AV.le_refl _) (z0e (AV.le_agg (z0e (AV.le_refl _) (z0e (AV.le_refl _) (z0e (AV.le_refl _) (z0e (AV.le_refl _) (z0e (AV.le_nilS (by decide)) (z0e (AV.le_nilS (by decide)) z2k))))))) z2k))
def zi7 (i : Nat) : Rule := ⟨i, i + 1, [[⟨i, i⟩]], 1, []⟩
def hasB (w : Bool) (g i : Nat) : Bool := w || decide (i ≠ g)
def z4i (w : Bool) (g k : Nat) : List Rule := ((List.range k).filter (hasB w g)).map zi7
def z1n (w : Bool) (g k : Nat) : Desc := ⟨2, 1, k, 0, z4i w g (k - 1), [⟨(k : Int) - 1, [], []⟩]⟩
theorem zn1 (w : Bool) (g k : Nat) : z4i w g (k + 1) = if hasB w g k = true then z4i w g k ++ [zi7 k] else z4i w g k := by
 simp only [z4i, List.range_succ, List.filter_append, List.map_append, List.filter_cons, List.filter_nil]
 split <;> simp_all
theorem zge (w : Bool) (g k : Nat) : (z4i w g k).length ≤ k := by
 have := List.length_filter_le (hasB w g) (List.range k)
 simpa [z4i] using this
theorem z4r {w : Bool} {g k : Nat} {r : Rule} : r ∈ z4i w g k ↔ ∃ i, (i < k ∧ hasB w g i = true) ∧ zi7 i = r := by
 simp [z4i, and_assoc]
theorem z6w (w : Bool) (g k : Nat) (h1 : 2 ≤ k) (h2 : k ≤ 70) : z2s (z1n w g k) = 0 := by
 have hl := zge w g (k - 1)
 refine (z6v ?_ (fun r hr => ?_) (fun f hf => ?_) ?_).2
 · have hs : (z1n w g k).states = k := rfl
   have hst : (z1n w g k).start = 0 := rfl
   have hr : (z1n w g k).rules.length = (z4i w g (k - 1)).length := rfl
   have hf : (z1n w g k).finals.length = 1 := rfl
   simp only [ze3, z5s, Bool.and_eq_true, decide_eq_true_eq]
   exact ⟨(by decide : 0 < ((domL 2).length : Int)), (by decide : 0 < ((domL 1).length : Int)), by omega, by omega, ⟨by omega, by omega⟩, by omega, by omega⟩
 · obtain ⟨i, ⟨hi, _⟩, rfl⟩ := z4r.1 hr
   simp only [z6g, Bool.and_eq_true]
   have hs : (z1n w g k).states = k := rfl
   refine ⟨?_, ?_, zec (zi0.2 ?_), by simp [zi7, eatB], by simp [zi7, z5i]⟩
   · simp only [z5s, Bool.and_eq_true, decide_eq_true_eq, hs]
     simp only [zi7]; omega
   · simp only [z5s, Bool.and_eq_true, decide_eq_true_eq, hs]
     simp only [zi7]; omega
   · simp [zs6, z1n]; omega
 · simp only [z1n, List.mem_singleton] at hf
   subst hf
   have hs : (z1n w g k).states = k := rfl
   simp [z4h, z5s, hs, z4g, z5i]
   omega
 · rintro ⟨C, hC, j, hj⟩
   obtain ⟨_, r, hr, he, _⟩ := hC j hj
   obtain ⟨i, _, rfl⟩ := z4r.1 hr
   simp [z4q, zi7] at he
theorem zl1 {w : Bool} {g k : Nat} {s t : Int} : (s, t) ∈ fwdE (z1n w g k) ↔ ∃ i : Nat, (i < k - 1 ∧ hasB w g i = true) ∧ (i : Int) = s ∧ (i : Int) + 1 = t := by
 rw [z7o]
 constructor
 · rintro ⟨r, hr, rfl, rfl⟩
   obtain ⟨i, hi, rfl⟩ := z4r.1 hr
   exact ⟨i, hi, rfl, rfl⟩
 · rintro ⟨i, hi, rfl, rfl⟩
   exact ⟨_, z4r.2 ⟨i, hi, rfl⟩, rfl, rfl⟩
theorem zl2 {w : Bool} {g k : Nat} {s t : Int} : (t, s) ∈ bwdE (z1n w g k) ↔ ∃ i : Nat, (i < k - 1 ∧ hasB w g i = true) ∧ (i : Int) = s ∧ (i : Int) + 1 = t := by
 rw [zi5]
 constructor
 · rintro ⟨r, hr, rfl, rfl⟩
   obtain ⟨i, hi, rfl⟩ := z4r.1 hr
   exact ⟨i, hi, rfl, rfl⟩
 · rintro ⟨i, hi, rfl, rfl⟩
   exact ⟨_, z4r.2 ⟨i, hi, rfl⟩, rfl, rfl⟩
section
variable {w : Bool} {g k : Nat}
theorem zeh (h1 : 2 ≤ k) (h2 : k ≤ 70) (hg : g < k - 1) (i : Nat) : z3b (fwdE (z1n w g k)) [(z1n w g k).start] i = (decide (i < k) && (w || decide (i ≤ g))) := by
 refine za6 (n := k) ((z8f (z6w w g k h1 h2)).fwd rfl) (on := fun i => decide (i < k) && (w || decide (i ≤ g))) (fun i hi => ?_) (fun s hs => ?_) (fun e he h => ?_) i
 · simp only [Bool.and_eq_true, Bool.or_eq_true, decide_eq_true_eq] at hi
   induction i with
   | zero => exact .base (by simp [z1n])
   | succ i ih =>
     refine .step (ih ⟨by omega, hi.2.imp id (fun h => by omega)⟩) (zl1.2 ⟨i, ⟨by omega, ?_⟩, rfl, by omega⟩)
     rcases hi.2 with h | h
     · simp [hasB, h]
     · simp [hasB]; omega
 · simp only [z1n, List.mem_singleton] at hs
   subst hs
   simp; omega
 · obtain ⟨a, b⟩ := e
   obtain ⟨j, ⟨hj, hb⟩, rfl, rfl⟩ := zl1.1 he
   simp only [hasB, Bool.and_eq_true, Bool.or_eq_true, decide_eq_true_eq] at h hb ⊢
   refine ⟨by omega, ?_⟩
   rcases hb with hb | hb
   · exact .inl hb
   · exact h.2.imp id fun h => by omega
theorem zav (h1 : 2 ≤ k) (h2 : k ≤ 70) (hg : g < k - 1) (i : Nat) : z3b (bwdE (z1n w g k)) (endE (z1n w g k)) i = (decide (i < k) && (w || decide (g < i))) := by
 refine za6 (n := k) ((z8f (z6w w g k h1 h2)).bwd rfl) (on := fun i => decide (i < k) && (w || decide (g < i))) (fun i hi => ?_) (fun s hs => ?_) (fun e he h => ?_) i
 · simp only [Bool.and_eq_true, Bool.or_eq_true, decide_eq_true_eq] at hi
   have key : ∀ m i : Nat, i + m = k - 1 → (w = true ∨ g < i) → Reach (bwdE (z1n w g k)) (endE (z1n w g k)) i := fun m => by
     induction m with
     | zero => intro i hm _; exact .base (by simp [endE, z1n]; omega)
     | succ m ih =>
       intro i hm hw
       refine .step (ih (i + 1) (by omega) (hw.imp id fun h => by omega)) (zl2.2 ⟨i, ⟨by omega, ?_⟩, rfl, by omega⟩)
       rcases hw with h | h
       · simp [hasB, h]
       · simp [hasB]; omega
   exact key (k - 1 - i) i (by omega) hi.2
 · simp only [endE, z1n, List.map_cons, List.map_nil, List.mem_singleton] at hs
   subst hs
   simp only [Bool.and_eq_true, Bool.or_eq_true, decide_eq_true_eq]
   exact ⟨by omega, .inr (by omega)⟩
 · obtain ⟨b, a⟩ := e
   obtain ⟨j, ⟨hj, hb⟩, rfl, rfl⟩ := zl2.1 he
   simp only [hasB, Bool.and_eq_true, Bool.or_eq_true, decide_eq_true_eq] at h hb ⊢
   refine ⟨by omega, ?_⟩
   rcases hb with hb | hb
   · exact .inl hb
   · exact h.2.imp id fun h => by omega
theorem zei (l : List Bool) (u : Nat → Bool) : ∀ k, (∀ i, i < k → nth l i = u i) → (z7k l k).length = cntB u k
 | 0, _ => rfl
 | k + 1, h => by
   rw [zas, z4x, h k (by omega)]
   have := zei l u k fun i hi => h i (by omega)
   split
   · rw [List.length_append, this]; rfl
   · exact this
theorem y62 (g : Nat) : ∀ k, g < k → cntB (fun i => decide (i < k) && decide (i ≤ g)) k = g + 1 := fun k hk => by
 have key : ∀ m, m ≤ k → cntB (fun i => decide (i < k) && decide (i ≤ g)) m = min m (g + 1) := fun m => by
   induction m with
   | zero => intro _; simp [cntB]
   | succ m ih =>
     intro hm
     rw [z4x, ih (by omega)]
     by_cases h : m ≤ g
     · rw [if_pos (by simp; omega)]; omega
     · rw [if_neg (by simp; omega)]; omega
 rw [key k (Nat.le_refl _)]; omega
theorem y11 (g : Nat) : ∀ k, g < k → cntB (fun i => decide (i < k) && decide (g < i)) k = k - g - 1 := fun k hk => by
 have key : ∀ m, m ≤ k → cntB (fun i => decide (i < k) && decide (g < i)) m = m - (g + 1) := fun m => by
   induction m with
   | zero => intro _; simp [cntB]
   | succ m ih =>
     intro hm
     rw [z4x, ih (by omega)]
     by_cases h : g < m
     · rw [if_pos (by simp; omega)]; omega
     · rw [if_neg (by simp; omega)]; omega
 rw [key k (Nat.le_refl _)]; omega
theorem zl3 (h1 : 2 ≤ k) (h2 : k ≤ 70) (hg : g < k - 1) : (z5k (z1n w g k)).length = if w = true then k else g + 1 := by
 have e : (z5k (z1n w g k)).length = cntB (fun i => decide (i < k) && (w || decide (i ≤ g))) k := zei _ _ k fun i hi => by
   rw [z6t, z5a (by simpa [z1n] using hi), zeh h1 h2 hg]
 rw [e]
 cases w with
 | true => rw [if_pos rfl]; exact za8 k (fun i hi => by simp [hi]) k (Nat.le_refl _)
 | false => rw [if_neg (by simp)]; simpa using y62 g k (by omega)
theorem zn2 (h1 : 2 ≤ k) (h2 : k ≤ 70) (hg : g < k - 1) : (z97 (z1n w g k)).length = if w = true then k else k - g - 1 := by
 have e : (z97 (z1n w g k)).length = cntB (fun i => decide (i < k) && (w || decide (g < i))) k := zei _ _ k fun i hi => by
   rw [goL, z5a (by simpa [z1n] using hi), zav h1 h2 hg]
 rw [e]
 cases w with
 | true => rw [if_pos rfl]; exact za8 k (fun i hi => by simp [hi]) k (Nat.le_refl _)
 | false => rw [if_neg (by simp)]; simpa using y11 g k (by omega)
theorem zn3 (h1 : 2 ≤ k) (h2 : k ≤ 70) (hg : g < k - 1) : z54 (z1n true g k) = z1n true g k :=
 (zkw (z6w true g k h1 h2) fun j hj => by
   have hj' : j < k := by simpa [z1n] using hj
   rw [zeh h1 h2 hg, zav h1 h2 hg]
   simp [hj']).1
theorem zww (h1 : 2 ≤ k) (h2 : k ≤ 70) (hg : g < k - 1) : z54 (z1n false g k) = z5v 2 1 := by
 unfold z54
 rw [if_pos (by rw [zav h1 h2 hg]; simp [z1n])]
 rfl
end
abbrev zl4 (r : Rule) : AV := .agg [.int .i64 r.from_, .int .i64 r.to_, z0d r.guards, .int .i64 r.eat, .nilS]
theorem zgf (l : List Rule) : z0h (l.map zl4) = true := z3j (fun s => by simp [zl4, AV.pure, z0h, z07]) l
theorem zpk : ∀ l : List Rule, (∀ r ∈ l, r.out = []) → leL (l.map zl4) (l.map zbu)
 | [], _ => z2k
 | r :: l, h => by
   have h1 := h r (by simp)
   refine z0e (AV.le_agg (z0e (AV.le_refl _) (z0e (AV.le_refl _) (z0e (AV.le_refl _) (z0e (AV.le_refl _) (z0e ?_ z2k)))))) (zpk l fun r hr => h r (by simp [hr]))
   rw [h1]
   exact AV.le_nilS (by decide)
abbrev chAV (w : Bool) (g k : Nat) : AV := .agg [.int .i64 2, .int .i64 1, .int .i64 k, .int .i64 0, .lst 5 ((z4i w g (k - 1)).map zl4), .lst 3 [.agg [.int .i64 ((k : Int) - 1), .nilS, .nilS]]]
theorem zn4 (w : Bool) (g k : Nat) : AV.le (chAV w g k) (z2r (z1n w g k)) :=
 AV.le_agg (z0e (AV.le_refl _) (z0e (AV.le_refl _) (z0e (AV.le_refl _) (z0e (AV.le_refl _) (z0e (AV.le_lst (by simp [z1n]) (z1a _) (zpk _ fun r hr => by obtain ⟨i, _, rfl⟩ := z4r.1 hr; rfl)) (z0e (AV.le_lst rfl (z1b _) (z0e (AV.le_agg (z0e (AV.le_refl _) (z0e (AV.le_nilS (by decide)) (z0e (AV.le_nilS (by decide)) z2k)))) z2k)) z2k))))))
set_option maxHeartbeats 1000000 in
theorem zi8 (a c : Int) (w : Bool) (ha : 0 ≤ a ∧ a ≤ 255) (hc0 : 0 ≤ c ∧ c ≤ 255) : PC Try.prog 9 [.int .u8 a, .int .u8 c, .bool w] (.bool true) := by
 have hA := zed
 obtain ⟨m, hm, hm2⟩ : ∃ m : Nat, a.tmod 60 = m ∧ m < 60 := ⟨(a % 60).toNat, by rw [Int.tmod_eq_emod_of_nonneg ha.1]; omega, by omega⟩
 obtain ⟨g, hg, hg2⟩ : ∃ g : Nat, c.tmod ((m : Int) + 1) = g ∧ g < m + 1 := by
   have h1 := Int.emod_nonneg c (show ((m : Int) + 1) ≠ 0 by omega)
   have h2 := Int.emod_lt_of_pos c (show 0 < ((m : Int) + 1) by omega)
   exact ⟨(c % ((m : Int) + 1)).toNat, by rw [Int.tmod_eq_emod_of_nonneg hc0.1]; omega, by omega⟩
 have hg3 : c.tmod ((m : Int) + 2 - 1) = g := by rw [show (m : Int) + 2 - 1 = m + 1 by omega]; exact hg
 have hck := z6w w g (m + 2) (by omega) (by omega)
 have hf := zky hck
 have hC := z5f (zat _ hf hck) (z0e (zn4 w g (m + 2)) z2k)
 have hG := z5f (z98 _ hf hck) (z0e (zn4 w g (m + 2)) z2k)
 have hT := z5f (za5 _ hf hck) (z0e (zn4 w g (m + 2)) z2k)
 have hch : chAV w g (m + 2) = .agg [.int .i64 2, .int .i64 1, .int .i64 ((m : Int) + 2), .int .i64 0, .lst 5 ((z4i w g (m + 1)).map zl4), .lst 3 [.agg [.int .i64 ((m : Int) + 2 - 1), .nilS, .nilS]]] := rfl
 rw [hch] at hC hG hT
 clear hch
 have lC := zl3 (w := w) (g := g) (k := m + 2) (by omega) (by omega) (by omega)
 have lG := zn2 (w := w) (g := g) (k := m + 2) (by omega) (by omega) (by omega)
 refine y0p zai ?_
 unfold z69
 refine z8v (W_T ?_)
 (repeat' (first | (simp (disch := omega) only [push_cast, ↓zz, seval]) | (with_reducible first | refine And.intro ?_ ?_ | (first | refine z01 ?_ ?_ | refine z00 ?_ ?_) <;> intro hc <;> (try simp only [push_cast] at hc)) | omega | with_reducible intro _))
 refine z8v (W_T ?_)
 (repeat' (first | (simp (disch := omega) only [push_cast, ↓zz, seval, hm]) | (with_reducible first | refine And.intro ?_ ?_ | (first | refine z01 ?_ ?_ | refine z00 ?_ ?_) <;> intro hc <;> (try simp only [push_cast] at hc)) | omega | with_reducible intro _))
 refine z8v (W_T ?_)
 (repeat' (first | (simp (disch := omega) only [push_cast, ↓zz, seval, hg, hg3]) | (with_reducible first | refine And.intro ?_ ?_ | (first | refine z01 ?_ ?_ | refine z00 ?_ ?_) <;> intro hc <;> (try simp only [push_cast] at hc)) | omega | with_reducible intro _))
 refine z8v (W_T ?_)
 (repeat' (first | (simp (disch := omega) only [push_cast, ↓zz, seval]) | (with_reducible first | refine And.intro ?_ ?_ | (first | refine z01 ?_ ?_ | refine z00 ?_ ?_) <;> intro hc <;> (try simp only [push_cast] at hc)) | omega | with_reducible intro _))
 refine z8v (W_T ?_)
 (repeat' (first | (simp (disch := omega) only [push_cast, ↓zz, seval]) | (with_reducible first | refine And.intro ?_ ?_ | (first | refine z01 ?_ ?_ | refine z00 ?_ ?_) <;> intro hc <;> (try simp only [push_cast] at hc)) | omega | with_reducible intro _))
 refine z0n (z0p (fun (i : Nat) => i ≤ m + 1) (fun i => m + 1 - i)
   (fun i => [(2, .bool w), (7, .int .i64 ((m : Int) + 2)), (8, .int .i64 g), (9, .ptr 0 1 0 0), (10, .int .i64 i)])
   (fun i => [⟨6, 1, true, [.agg [.int .i64 2, .int .i64 1, .int .i64 ((m : Int) + 2), .int .i64 0, .ref 1 1 0 (z4i w g i).length, .lst 3 [.agg [.int .i64 ((m : Int) + 2 - 1), .nilS, .nilS]]]]⟩, ⟨5, 1, false, (z4i w g i).map zl4⟩]) (fun env H => [z0r 6 (env 9), z0r 5 (cellAt H (env 9) 4)]) 0 (by simp) ?_ ?_)
 · have e0 : z4i w g 0 = [] := rfl
   (repeat' (first | (simp (disch := omega) only [push_cast, ↓zz, seval, e0]) | (with_reducible first | refine And.intro ?_ ?_ | (first | refine z01 ?_ ?_ | refine z00 ?_ ?_) <;> intro hc <;> (try simp only [push_cast] at hc)) | omega | with_reducible intro _))
 intro i hi
 have hls := zn1 w g i
 have hll := zge w g i
 have pL := zgf (z4i w g i)
 rcases Nat.lt_or_ge i (m + 1) with him | him
 · have hlr : zl4 (zi7 i) = .agg [.int .i64 i, .int .i64 ((i : Int) + 1), .lst 1 [.lst 2 [.agg [.int .i64 i, .int .i64 i]]], .int .i64 1, .nilS] := rfl
   cases hh : hasB w g i with
   | true =>
     rw [hh, if_pos rfl] at hls
     generalize z4i w g i = K at *
     refine W_T ?_
     cases w with
     | true =>
       (repeat' (first | (simp (disch := omega) only [push_cast, ↓zz, seval, pL]) | (with_reducible first | refine And.intro ?_ ?_ | (first | refine z01 ?_ ?_ | refine z00 ?_ ?_) <;> intro hc <;> (try simp only [push_cast] at hc)) | omega | with_reducible intro _))
       all_goals
         refine ⟨i + 1, ?_⟩
         (repeat' (first | (simp (disch := omega) only [push_cast, ↓zz, seval, hls, pL, hlr]) | (with_reducible first | refine And.intro ?_ ?_ | (first | refine z01 ?_ ?_ | refine z00 ?_ ?_) <;> intro hc <;> (try simp only [push_cast] at hc)) | omega | with_reducible intro _))
     | false =>
       have hne : ¬ i = g := by simpa [hasB] using hh
       (repeat' (first | (simp (disch := omega) only [push_cast, ↓zz, seval, pL, hne]) | (with_reducible first | refine And.intro ?_ ?_ | (first | refine z01 ?_ ?_ | refine z00 ?_ ?_) <;> intro hc <;> (try simp only [push_cast] at hc)) | omega | with_reducible intro _))
       all_goals
         refine ⟨i + 1, ?_⟩
         (repeat' (first | (simp (disch := omega) only [push_cast, ↓zz, seval, hls, pL, hlr]) | (with_reducible first | refine And.intro ?_ ?_ | (first | refine z01 ?_ ?_ | refine z00 ?_ ?_) <;> intro hc <;> (try simp only [push_cast] at hc)) | omega | with_reducible intro _))
   | false =>
     rw [hh, if_neg (by simp)] at hls
     simp only [hasB, Bool.or_eq_false_iff, decide_eq_false_iff_not, Classical.not_not] at hh
     obtain ⟨rfl, rfl⟩ := hh
     refine W_T ?_
     (repeat' (first | (simp (disch := omega) only [push_cast, ↓zz, seval, pL]) | (with_reducible first | refine And.intro ?_ ?_ | (first | refine z01 ?_ ?_ | refine z00 ?_ ?_) <;> intro hc <;> (try simp only [push_cast] at hc)) | omega | with_reducible intro _))
     all_goals
       refine ⟨i + 1, ?_⟩
       (repeat' (first | (simp (disch := omega) only [push_cast, ↓zz, seval, hls, pL]) | (with_reducible first | refine And.intro ?_ ?_ | (first | refine z01 ?_ ?_ | refine z00 ?_ ?_) <;> intro hc <;> (try simp only [push_cast] at hc)) | omega | with_reducible intro _))
 · obtain rfl : i = m + 1 := by omega
   clear hls
   refine W_T ?_
   (repeat' (first | (simp (disch := omega) only [push_cast, ↓zz, seval, pL]) | (with_reducible first | refine And.intro ?_ ?_ | (first | refine z01 ?_ ?_ | refine z00 ?_ ?_) <;> intro hc <;> (try simp only [push_cast] at hc)) | omega | with_reducible intro _))
   refine zqp (zfs (l' := [⟨6, 1, true, [.agg [.int .i64 2, .int .i64 1, .int .i64 ((m : Int) + 2), .int .i64 0, .lst 5 ((z4i w g (m + 1)).map zl4), .lst 3 [.agg [.int .i64 ((m : Int) + 2 - 1), .nilS, .nilS]]]]⟩, ⟨0, 2, false, []⟩]) (g := 0) (d := 8) [1] (by decide) (by simp) rfl (by decide) ?_ ?_) (W_T ?_)
   · (simp (disch := omega) only [push_cast, ↓zz, seval, pL])
   · (simp (disch := omega) only [push_cast, ↓zz, seval, pL])
   have hw0 : ((m + 2 : Nat) : Int) = (m : Int) + 2 := by push_cast; rfl
   have pK := zgf (z4i w g (m + 1))
   have pI : z0h ((z5k (z1n w g (m + 2))).map (AV.int .i64)) = true := z3c .i64 _
   have pJ : z0h ((z97 (z1n w g (m + 2))).map (AV.int .i64)) = true := z3c .i64 _
   have hZ := zsc 2 1
   cases w with
   | true =>
     rw [if_pos rfl] at lC lG
     rw [zn3 (by omega) (by omega) (by omega)] at hT
     have hst : (z1n true g (m + 2)).states = (m : Int) + 2 := by simp [z1n]
     have pR := z1a (z1n true g (m + 2)).rules
     have pF := z1b (z1n true g (m + 2)).finals
     generalize z5k (z1n true g (m + 2)) = CI at *
     generalize z97 (z1n true g (m + 2)) = GI at *
     generalize z1n true g (m + 2) = ch at *
     have lC2 : (CI.length : Int) = (m : Int) + 2 := by omega
     have lG2 : (GI.length : Int) = (m : Int) + 2 := by omega
     (repeat' (first | (simp (disch := omega) only [push_cast, ↓zz, seval, pK, pI, pJ, pR, pF, lC2, lG2, hst, hw0]) | (with_reducible first | refine And.intro ?_ ?_ | (first | refine z01 ?_ ?_ | refine z00 ?_ ?_) <;> intro hc <;> (try simp only [push_cast] at hc)) | ((with_reducible first | refine eK hC ?_ | refine eQ hC ?_)) | ((with_reducible first | refine eK hG ?_ | refine eQ hG ?_)) | ((with_reducible first | refine eK hT ?_ | refine eQ hT ?_)) | ((with_reducible first | refine eK hA ?_ | refine eQ hA ?_ | refine eG hA ?_)) | ((with_reducible first | refine cK hA ?_ | refine cQ hA ?_ | refine cG hA ?_); (simp (disch := omega) only [push_cast, ↓zz, seval, pK, pI, pJ, pR, pF, lC2, lG2, hst, hw0]); (fail_if_success (with_reducible change False))) | omega | with_reducible intro _))
     all_goals first | (exfalso; revert hc; decide) | trace_state
   | false =>
     rw [if_neg (by simp)] at lC lG
     rw [zww (by omega) (by omega) (by omega)] at hT
     generalize z5k (z1n false g (m + 2)) = CI at *
     generalize z97 (z1n false g (m + 2)) = GI at *
     have lC2 : (CI.length : Int) = (g : Int) + 1 := by omega
     have lG2 : (GI.length : Int) = (m : Int) + 2 - g - 1 := by omega
     generalize z5v 2 1 = ev at *
     (repeat' (first | (simp (disch := omega) only [push_cast, ↓zz, seval, pK, pI, pJ, lC2, lG2, hw0]) | (with_reducible first | refine And.intro ?_ ?_ | (first | refine z01 ?_ ?_ | refine z00 ?_ ?_) <;> intro hc <;> (try simp only [push_cast] at hc)) | ((with_reducible first | refine eK hC ?_ | refine eQ hC ?_)) | ((with_reducible first | refine eK hG ?_ | refine eQ hG ?_)) | ((with_reducible first | refine eK hT ?_ | refine eQ hT ?_)) | ((with_reducible first | refine eK hZ ?_ | refine eQ hZ ?_)) | ((with_reducible first | refine eK hA ?_ | refine eQ hA ?_ | refine eG hA ?_)) | ((with_reducible first | refine cK hA ?_ | refine cQ hA ?_ | refine cG hA ?_); (simp (disch := omega) only [push_cast, ↓zz, seval, pK, pI, pJ, lC2, lG2, hw0]); (fail_if_success (with_reducible change False))) | omega | with_reducible intro _))
     all_goals first | (exfalso; revert hc; decide) | trace_state
end Go.Proofs.Yticodgjinajkpaa
