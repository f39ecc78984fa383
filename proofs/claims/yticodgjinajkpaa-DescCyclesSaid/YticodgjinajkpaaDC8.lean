/-
  What is wrong first with a description: desc.Where, desc.Check.
  Sizes of descriptions: Free, Width, Ahead, Longest.
  Descriptions that are made: Empty, Same, copies, Join.
  What a part's values, sums of sets, and a term's inner values are, number by number.
  The inner values of all windows, and a term's values.
  A term's values of all windows of guards, as they are told.
  The document's answer for layer 4: how many windows there are, a window by its number, all values.
  The document's answer for layer 4: all values of all windows, and whether a term fits.
  The document's values of all windows are the program's.
  Two descriptions joined.
  The document's example of layer 6; descriptions that write what they read are well formed.
  The law DescSizes.
  The document's answer for epsilon rules that lead back.
  The law DescCycles.
-/
import Derived.Test.YticodgjinajkpaaDC7
import Derived.Test.YticodgjinajkpaaDC5
import Derived.Test.YticodgjinajkpaaDC6
set_option linter.unusedSimpArgs false
set_option linter.unusedVariables false
namespace Go.Proofs.Yticodgjinajkpaa
open Abs
def badAt {α : Type} (p : α → Bool) : List α → Nat → Option Nat
  | [], _ => none
  | x :: l, i => if p x then badAt p l (i + 1) else some i
theorem badAt_at {α : Type} [Inhabited α] {p : α → Bool} {l : List α} {k : Nat} (h : k < l.length) : badAt p (l.drop k) k = if p (nth l k) then badAt p (l.drop (k + 1)) (k + 1) else some k := by rw [drop_at h, badAt]
theorem badAt_none {α : Type} {p : α → Bool} : ∀ {l : List α} {i : Nat}, badAt p l i = none → ∀ x ∈ l, p x = true
  | [], _, _, _, h => by cases h
  | y :: l, i, h, x, hx => by
    rw [badAt] at h
    split at h
    · rename_i hp
      rcases List.mem_cons.1 hx with rfl | hx
      · exact hp
      · exact badAt_none h x hx
    · cases h
def finalB (d : Desc) (f : Final) : Bool := stateB d f.from_ && (guardsB d.in_ f.guards && writesB d f.out f.guards)
open Classical in
noncomputable def whereV (d : Desc) : Int × Int :=
  if headB d = false then (1, 0) else
    match badAt (ruleB d) d.rules 0 with
    | some i => (2, i)
    | none => match badAt (finalB d) d.finals 0 with
      | some i => (3, i)
      | none => if cycP d.rules d.states.toNat then (4, 0) else (0, 0)
def DescFin (d : Desc) : Prop := (∀ r ∈ d.rules, ∀ t ∈ r.out, t.parts.length < 1000000000000) ∧ ∀ f ∈ d.finals, ∀ t ∈ f.out, t.parts.length < 1000000000000
theorem head_bd {d : Desc} (h : headB d = true) : (1 ≤ d.states ∧ d.states ≤ 1024) ∧ d.rules.length ≤ 4096 ∧ d.finals.length ≤ 4096 ∧ 0 ≤ d.start ∧ d.start < d.states := by
  simp only [headB, stateB, Bool.and_eq_true, decide_eq_true_eq] at h
  omega
theorem rule_bd {d : Desc} {r : Rule} (h : ruleB d r = true) : (0 ≤ r.from_ ∧ r.from_ < d.states) ∧ 0 ≤ r.to_ ∧ r.to_ < d.states := by
  simp only [ruleB, stateB, Bool.and_eq_true, decide_eq_true_eq] at h
  omega
theorem desc_Where (d : Desc) (hf : DescFin d) : PC Try.prog 12 [descV d] (.tup [.int .i64 (whereV d).1, .int .i64 (whereV d).2]) := by
  have hH := desc_head d
  have hPr := pure_rules d.rules
  have hPf := pure_finals d.finals
  refine pc_w' c_desc_Where ?_
  unfold B_desc_Where
  cases hh : headB d with
  | false =>
    rw [hh] at hH
    rw [whereV, if_pos hh]
    (repeat' (first | (simp (disch := omega) only [push_cast, ↓zz, seval]) | (with_reducible refine And.intro ?_ ?_) | (with_reducible refine condW_split ?_ ?_ <;> intro hc <;> (try simp only [push_cast] at hc)) | (with_reducible refine guardW_split ?_ ?_ <;> intro hc <;> (try simp only [push_cast] at hc)) | ((with_reducible first | refine eK hH ?_ | refine eQ hH ?_ | refine eG hH ?_)) | ((with_reducible first | refine cK hH ?_ | refine cQ hH ?_ | refine cG hH ?_); (simp (disch := omega) only [push_cast, ↓zz, seval]); (fail_if_success (with_reducible change False))) | omega | (with_reducible intro _)))
  | true =>
  rw [hh] at hH
  obtain ⟨b1, b2, b3, b4⟩ := head_bd hh
  have hW : whereV d = match badAt (ruleB d) d.rules 0 with
    | some i => (2, (i : Int))
    | none => match badAt (finalB d) d.finals 0 with
      | some i => (3, (i : Int))
      | none => if (@decide (cycP d.rules d.states.toNat) (Classical.propDecidable _)) = true then (4, 0) else (0, 0) := by
    rw [whereV, if_neg (by simp [hh])]
    split
    · rfl
    · split
      · rfl
      · by_cases hc : cycP d.rules d.states.toNat
        · rw [if_pos hc, if_pos (@decide_eq_true _ (Classical.propDecidable _) hc)]
        · rw [if_neg hc, if_neg (by rw [@decide_eq_false _ (Classical.propDecidable _) hc]; simp)]
  (repeat' (first | (simp (disch := omega) only [push_cast, ↓zz, seval]) | (with_reducible refine And.intro ?_ ?_) | (with_reducible refine condW_split ?_ ?_ <;> intro hc <;> (try simp only [push_cast] at hc)) | (with_reducible refine guardW_split ?_ ?_ <;> intro hc <;> (try simp only [push_cast] at hc)) | ((with_reducible first | refine eK hH ?_ | refine eQ hH ?_ | refine eG hH ?_)) | ((with_reducible first | refine cK hH ?_ | refine cQ hH ?_ | refine cG hH ?_); (simp (disch := omega) only [push_cast, ↓zz, seval]); (fail_if_success (with_reducible change False))) | omega | (with_reducible intro _)))
  refine LoopK_T (T_loopR (fun (k : Nat) => k ≤ d.rules.length ∧ badAt (ruleB d) d.rules 0 = badAt (ruleB d) (d.rules.drop k) k) (fun k => d.rules.length - k)
    (fun k => [(1, .ptr 0 1 0 0), (12, rulesV d.rules), (13, .int .i64 d.rules.length), (14, .int .i64 k)]) (fun k => [⟨6, 1, true, [descV d]⟩]) (fun env _ => [srcOf 1 (env 1)]) 0 ⟨by simp, rfl⟩ ?_ ?_)
  · (repeat' (first | (simp (disch := omega) only [push_cast, ↓zz, seval, hPr, hPf]) | (with_reducible refine And.intro ?_ ?_) | (with_reducible refine condW_split ?_ ?_ <;> intro hc <;> (try simp only [push_cast] at hc)) | (with_reducible refine guardW_split ?_ ?_ <;> intro hc <;> (try simp only [push_cast] at hc)) | omega | (with_reducible intro _)))
  rintro k ⟨k1, k2⟩
  rcases Nat.lt_or_ge k d.rules.length with hk | hk
  · have hr := desc_rule d (nth d.rules k) (hf.1 _ (nth_mem hk))
    rw [badAt_at hk] at k2
    cases hb : ruleB d (nth d.rules k) with
    | false =>
      rw [hb] at hr k2
      simp only [Bool.false_eq_true, if_false] at k2
      rw [hW, k2]
      refine W_T ?_
      (repeat' (first | (simp (disch := omega) only [push_cast, ↓zz, seval, hPr, hPf]) | (with_reducible refine And.intro ?_ ?_) | (with_reducible refine condW_split ?_ ?_ <;> intro hc <;> (try simp only [push_cast] at hc)) | (with_reducible refine guardW_split ?_ ?_ <;> intro hc <;> (try simp only [push_cast] at hc)) | ((with_reducible first | refine eK hr ?_ | refine eQ hr ?_ | refine eG hr ?_)) | ((with_reducible first | refine cK hr ?_ | refine cQ hr ?_ | refine cG hr ?_); (simp (disch := omega) only [push_cast, ↓zz, seval, hPr, hPf]); (fail_if_success (with_reducible change False))) | omega | (with_reducible intro _)))
    | true =>
      rw [hb] at hr k2
      simp only [if_true] at k2
      refine W_T ?_
      (repeat' (first | (simp (disch := omega) only [push_cast, ↓zz, seval, hPr, hPf]) | (with_reducible refine And.intro ?_ ?_) | (with_reducible refine condW_split ?_ ?_ <;> intro hc <;> (try simp only [push_cast] at hc)) | (with_reducible refine guardW_split ?_ ?_ <;> intro hc <;> (try simp only [push_cast] at hc)) | ((with_reducible first | refine eK hr ?_ | refine eQ hr ?_ | refine eG hr ?_)) | ((with_reducible first | refine cK hr ?_ | refine cQ hr ?_ | refine cG hr ?_); (simp (disch := omega) only [push_cast, ↓zz, seval, hPr, hPf]); (fail_if_success (with_reducible change False))) | omega | (with_reducible intro _)))
      all_goals exact ⟨k + 1, by push_cast, ⟨by omega, k2⟩, by omega⟩
  · rw [List.drop_of_length_le hk, badAt] at k2
    have hall := badAt_none k2
    have hC := desc_cycle d ⟨b1, b2, fun r hr => rule_bd (hall r hr)⟩
    rw [k2] at hW
    simp only at hW
    refine W_T ?_
    (repeat' (first | (simp (disch := omega) only [push_cast, ↓zz, seval, hPr, hPf]) | (with_reducible refine And.intro ?_ ?_) | (with_reducible refine condW_split ?_ ?_ <;> intro hc <;> (try simp only [push_cast] at hc)) | (with_reducible refine guardW_split ?_ ?_ <;> intro hc <;> (try simp only [push_cast] at hc)) | omega | (with_reducible intro _)))
    refine LoopK_T (T_loopR (fun (k : Nat) => k ≤ d.finals.length ∧ badAt (finalB d) d.finals 0 = badAt (finalB d) (d.finals.drop k) k) (fun k => d.finals.length - k)
      (fun k => [(1, .ptr 0 1 0 0), (26, finalsV d.finals), (27, .int .i64 d.finals.length), (28, .int .i64 k)]) (fun k => [⟨6, 1, true, [descV d]⟩]) (fun env _ => [srcOf 1 (env 1)]) 0 ⟨by simp, rfl⟩ ?_ ?_)
    · (repeat' (first | (simp (disch := omega) only [push_cast, ↓zz, seval, hPr, hPf]) | (with_reducible refine And.intro ?_ ?_) | (with_reducible refine condW_split ?_ ?_ <;> intro hc <;> (try simp only [push_cast] at hc)) | (with_reducible refine guardW_split ?_ ?_ <;> intro hc <;> (try simp only [push_cast] at hc)) | omega | (with_reducible intro _)))
    rintro j ⟨j1, j2⟩
    rcases Nat.lt_or_ge j d.finals.length with hj | hj
    · generalize hfe : nth d.finals j = f at *
      have hfm : f ∈ d.finals := by rw [← hfe]; exact nth_mem hj
      have hfo := hf.2 f hfm
      have h1 := desc_state d f.from_
      have h2 := desc_guards d.in_ f.guards
      have hP := pure_guards f.guards
      have hT := pure_terms f.out
      rw [badAt_at hj, hfe] at j2
      cases hg : guardsB d.in_ f.guards with
      | false =>
        have hb : finalB d f = false := by rw [finalB, hg]; simp
        rw [hg] at h2
        rw [hb] at j2
        simp only [Bool.false_eq_true, if_false] at j2
        rw [hW, j2]
        refine W_T ?_
        (repeat' (first | (simp (disch := omega) only [push_cast, ↓zz, seval, hPr, hPf, hfe, hP, hT]) | (with_reducible refine And.intro ?_ ?_) | (with_reducible refine condW_split ?_ ?_ <;> intro hc <;> (try simp only [push_cast] at hc)) | (with_reducible refine guardW_split ?_ ?_ <;> intro hc <;> (try simp only [push_cast] at hc)) | ((with_reducible first | refine eK h1 ?_ | refine eQ h1 ?_ | refine eG h1 ?_)) | ((with_reducible first | refine eK h2 ?_ | refine eQ h2 ?_ | refine eG h2 ?_)) | ((with_reducible first | refine cK h1 ?_ | refine cQ h1 ?_ | refine cG h1 ?_); (simp (disch := omega) only [push_cast, ↓zz, seval, hPr, hPf, hfe, hP, hT]); (fail_if_success (with_reducible change False))) | ((with_reducible first | refine cK h2 ?_ | refine cQ h2 ?_ | refine cG h2 ?_); (simp (disch := omega) only [push_cast, ↓zz, seval, hPr, hPf, hfe, hP, hT]); (fail_if_success (with_reducible change False))) | omega | (with_reducible intro _)))
      | true =>
        rw [hg] at h2
        obtain ⟨g1, g2⟩ := guards_short hg
        have h4 := desc_writes d f.out f.guards hfo (fun g hg => by have := g2 g hg; omega) (by omega)
        cases hb : finalB d f with
        | false =>
          rw [hb] at j2
          simp only [Bool.false_eq_true, if_false] at j2
          rw [hW, j2]
          rw [finalB, hg, Bool.true_and] at hb
          refine W_T ?_
          (repeat' (first | (simp (disch := omega) only [push_cast, ↓zz, seval, hPr, hPf, hfe, hP, hT]) | (with_reducible refine And.intro ?_ ?_) | (with_reducible refine condW_split ?_ ?_ <;> intro hc <;> (try simp only [push_cast] at hc)) | (with_reducible refine guardW_split ?_ ?_ <;> intro hc <;> (try simp only [push_cast] at hc)) | ((with_reducible first | refine eK h1 ?_ | refine eQ h1 ?_ | refine eG h1 ?_)) | ((with_reducible first | refine eK h2 ?_ | refine eQ h2 ?_ | refine eG h2 ?_)) | ((with_reducible first | refine eK h4 ?_ | refine eQ h4 ?_ | refine eG h4 ?_)) | ((with_reducible first | refine cK h1 ?_ | refine cQ h1 ?_ | refine cG h1 ?_); (simp (disch := omega) only [push_cast, ↓zz, seval, hPr, hPf, hfe, hP, hT]); (fail_if_success (with_reducible change False))) | ((with_reducible first | refine cK h2 ?_ | refine cQ h2 ?_ | refine cG h2 ?_); (simp (disch := omega) only [push_cast, ↓zz, seval, hPr, hPf, hfe, hP, hT]); (fail_if_success (with_reducible change False))) | ((with_reducible first | refine cK h4 ?_ | refine cQ h4 ?_ | refine cG h4 ?_); (simp (disch := omega) only [push_cast, ↓zz, seval, hPr, hPf, hfe, hP, hT]); (fail_if_success (with_reducible change False))) | omega | (with_reducible intro _)))
          all_goals first
            | (exfalso; simp_all; done)
            | trace_state
        | true =>
          rw [hb] at j2
          simp only [if_true] at j2
          rw [finalB, hg, Bool.true_and, Bool.and_eq_true] at hb
          rw [hb.1] at h1
          rw [hb.2] at h4
          refine W_T ?_
          (repeat' (first | (simp (disch := omega) only [push_cast, ↓zz, seval, hPr, hPf, hfe, hP, hT]) | (with_reducible refine And.intro ?_ ?_) | (with_reducible refine condW_split ?_ ?_ <;> intro hc <;> (try simp only [push_cast] at hc)) | (with_reducible refine guardW_split ?_ ?_ <;> intro hc <;> (try simp only [push_cast] at hc)) | ((with_reducible first | refine eK h1 ?_ | refine eQ h1 ?_ | refine eG h1 ?_)) | ((with_reducible first | refine eK h2 ?_ | refine eQ h2 ?_ | refine eG h2 ?_)) | ((with_reducible first | refine eK h4 ?_ | refine eQ h4 ?_ | refine eG h4 ?_)) | ((with_reducible first | refine cK h1 ?_ | refine cQ h1 ?_ | refine cG h1 ?_); (simp (disch := omega) only [push_cast, ↓zz, seval, hPr, hPf, hfe, hP, hT]); (fail_if_success (with_reducible change False))) | ((with_reducible first | refine cK h2 ?_ | refine cQ h2 ?_ | refine cG h2 ?_); (simp (disch := omega) only [push_cast, ↓zz, seval, hPr, hPf, hfe, hP, hT]); (fail_if_success (with_reducible change False))) | ((with_reducible first | refine cK h4 ?_ | refine cQ h4 ?_ | refine cG h4 ?_); (simp (disch := omega) only [push_cast, ↓zz, seval, hPr, hPf, hfe, hP, hT]); (fail_if_success (with_reducible change False))) | omega | (with_reducible intro _)))
          all_goals exact ⟨j + 1, by push_cast, ⟨by omega, j2⟩, by omega⟩
    · rw [List.drop_of_length_le hj, badAt] at j2
      rw [j2] at hW
      simp only at hW
      generalize @decide (cycP d.rules d.states.toNat) (Classical.propDecidable _) = c at *
      refine W_T ?_
      rw [hW]
      cases c
      · (repeat' (first | (simp (disch := omega) only [push_cast, ↓zz, seval, hPr, hPf]) | (with_reducible refine And.intro ?_ ?_) | (with_reducible refine condW_split ?_ ?_ <;> intro hc <;> (try simp only [push_cast] at hc)) | (with_reducible refine guardW_split ?_ ?_ <;> intro hc <;> (try simp only [push_cast] at hc)) | ((with_reducible first | refine eK hC ?_ | refine eQ hC ?_ | refine eG hC ?_)) | ((with_reducible first | refine cK hC ?_ | refine cQ hC ?_ | refine cG hC ?_); (simp (disch := omega) only [push_cast, ↓zz, seval, hPr, hPf]); (fail_if_success (with_reducible change False))) | omega | (with_reducible intro _)))
      · (repeat' (first | (simp (disch := omega) only [push_cast, ↓zz, seval, hPr, hPf]) | (with_reducible refine And.intro ?_ ?_) | (with_reducible refine condW_split ?_ ?_ <;> intro hc <;> (try simp only [push_cast] at hc)) | (with_reducible refine guardW_split ?_ ?_ <;> intro hc <;> (try simp only [push_cast] at hc)) | ((with_reducible first | refine eK hC ?_ | refine eQ hC ?_ | refine eG hC ?_)) | ((with_reducible first | refine cK hC ?_ | refine cQ hC ?_ | refine cG hC ?_); (simp (disch := omega) only [push_cast, ↓zz, seval, hPr, hPf]); (fail_if_success (with_reducible change False))) | omega | (with_reducible intro _)))
        all_goals trace_state
noncomputable def checkV (d : Desc) : Int := if (whereV d).1 = 0 then 0 else 2
theorem desc_Check (d : Desc) (hf : DescFin d) : PC Try.prog 14 [descV d] (.int .i64 (checkV d)) := by
  have hW := desc_Where d hf
  refine pc_w' c_desc_Check ?_
  unfold B_desc_Check checkV
  generalize whereV d = w at *
  by_cases h : w.1 = 0
  · rw [if_pos h]
    (repeat' (first | (simp (disch := omega) only [push_cast, ↓zz, seval, h]) | (with_reducible refine And.intro ?_ ?_) | (with_reducible refine condW_split ?_ ?_ <;> intro hc <;> (try simp only [push_cast] at hc)) | (with_reducible refine guardW_split ?_ ?_ <;> intro hc <;> (try simp only [push_cast] at hc)) | ((with_reducible first | refine eK hW ?_ | refine eQ hW ?_ | refine eG hW ?_)) | ((with_reducible first | refine cK hW ?_ | refine cQ hW ?_ | refine cG hW ?_); (simp (disch := omega) only [push_cast, ↓zz, seval, h]); (fail_if_success (with_reducible change False))) | omega | (with_reducible intro _)))
  · rw [if_neg h]
    (repeat' (first | (simp (disch := omega) only [push_cast, ↓zz, seval, h]) | (with_reducible refine And.intro ?_ ?_) | (with_reducible refine condW_split ?_ ?_ <;> intro hc <;> (try simp only [push_cast] at hc)) | (with_reducible refine guardW_split ?_ ?_ <;> intro hc <;> (try simp only [push_cast] at hc)) | ((with_reducible first | refine eK hW ?_ | refine eQ hW ?_ | refine eG hW ?_)) | ((with_reducible first | refine cK hW ?_ | refine cQ hW ?_ | refine cG hW ?_); (simp (disch := omega) only [push_cast, ↓zz, seval, h]); (fail_if_success (with_reducible change False))) | omega | (with_reducible intro _)))
    all_goals trace_state
end Go.Proofs.Yticodgjinajkpaa
set_option linter.unusedSimpArgs false
set_option linter.unusedVariables false
namespace Go.Proofs.Yticodgjinajkpaa
open Abs
theorem fold_at {α β : Type} [Inhabited α] {f : β → α → β} {l : List α} {k : Nat} {s : β} (h : k < l.length) : (l.drop k).foldl f s = (l.drop (k + 1)).foldl f (f s (nth l k)) := by rw [drop_at h, List.foldl_cons]
def freeB (d : Desc) : Bool := d.rules.all fun r => !isEps r
def widF (n : Int) (r : Rule) : Int := max n r.guards.length
def widthV (d : Desc) : Int := d.rules.foldl widF 0
def aheF (n : Int) (r : Rule) : Int := max n (r.guards.length - max r.eat 0)
def aheadV (d : Desc) : Int := d.rules.foldl aheF 0
def lonF (n : Int) (r : Rule) : Int := max n r.out.length
def lonG (n : Int) (f : Final) : Int := max n f.out.length
def longV (d : Desc) : Int := d.finals.foldl lonG (d.rules.foldl lonF 0)
end Go.Proofs.Yticodgjinajkpaa
set_option linter.unusedSimpArgs false
set_option linter.unusedVariables false
namespace Go.Proofs.Yticodgjinajkpaa
open Abs
theorem desc_Empty (a b : Int) : PC Try.prog 15 [.int .i64 a, .int .i64 b] (descV ⟨a, b, 1, 0, [], []⟩) := by
  refine pc_w' c_desc_Empty ?_
  unfold B_desc_Empty
  (repeat' (first | (simp (disch := omega) only [push_cast, ↓zz, seval]) | (with_reducible refine And.intro ?_ ?_) | (with_reducible refine condW_split ?_ ?_ <;> intro hc <;> (try simp only [push_cast] at hc)) | (with_reducible refine guardW_split ?_ ?_ <;> intro hc <;> (try simp only [push_cast] at hc)) | omega | (with_reducible intro _)))
  all_goals trace_state
def copyT : Term := ⟨0, 0, 21, 0, 0, [⟨0, 0, 21, 0⟩]⟩
def sameV (s : Int) : Desc := ⟨s, s, 1, 0, [⟨0, 0, [domL s], 1, [copyT]⟩], [⟨0, [], []⟩]⟩
theorem pc_ans {P : Program} {f : Nat} {xs : List AV} {y y2 : AV} (h : PC P f xs y) (hle : AV.le y y2) : PC P f xs y2 := ⟨h.1, fun S cargs hS hx => (h.2 S cargs hS hx).mono fun e w' hh => by
  obtain ⟨v, S', x, H', he, hw, ev, hS', hv, rfl, rfl⟩ := hh
  exact ⟨v, S', _, _, he, hw, ev, hS', hle S' v hv, rfl, rfl⟩⟩
theorem fin_nil : AV.le (.lst 3 [.agg [.int .i64 0, .nilS, .nilS]]) (finalsV [⟨0, [], []⟩]) :=
  AV.le_lst rfl rfl (leL_cons (AV.le_agg (leL_cons (AV.le_refl _) (leL_cons (AV.le_nilS Nat.one_pos) (leL_cons (AV.le_nilS (by decide)) leL_nil)))) leL_nil)
theorem desc_Same (s : Int) : PC Try.prog 16 [.int .i64 s] (descV (sameV s)) := by
  have hE := desc_Empty s s
  have hD := word_Domain s
  have hC := term_Copy 0 0
  have hp : pureL ((domL s).map spanV) = true := pure_spans _
  have key : PC Try.prog 16 [.int .i64 s] (.agg [.int .i64 s, .int .i64 s, .int .i64 1, .int .i64 0, rulesV [⟨0, 0, [domL s], 1, [copyT]⟩], .lst 3 [.agg [.int .i64 0, .nilS, .nilS]]]) := by
    refine pc_w' c_desc_Same ?_
    unfold B_desc_Same
    (repeat' (first | (simp (disch := omega) only [push_cast, ↓zz, seval, hp]) | (with_reducible refine And.intro ?_ ?_) | (with_reducible refine condW_split ?_ ?_ <;> intro hc <;> (try simp only [push_cast] at hc)) | (with_reducible refine guardW_split ?_ ?_ <;> intro hc <;> (try simp only [push_cast] at hc)) | ((with_reducible first | refine eK hE ?_ | refine eQ hE ?_ | refine eG hE ?_)) | ((with_reducible first | refine eK hD ?_ | refine eQ hD ?_ | refine eG hD ?_)) | ((with_reducible first | refine eK hC ?_ | refine eQ hC ?_ | refine eG hC ?_)) | ((with_reducible first | refine cK hE ?_ | refine cQ hE ?_ | refine cG hE ?_); (simp (disch := omega) only [push_cast, ↓zz, seval, hp]); (fail_if_success (with_reducible change False))) | ((with_reducible first | refine cK hD ?_ | refine cQ hD ?_ | refine cG hD ?_); (simp (disch := omega) only [push_cast, ↓zz, seval, hp]); (fail_if_success (with_reducible change False))) | ((with_reducible first | refine cK hC ?_ | refine cQ hC ?_ | refine cG hC ?_); (simp (disch := omega) only [push_cast, ↓zz, seval, hp]); (fail_if_success (with_reducible change False))) | omega | (with_reducible intro _)))
    all_goals first | rfl | trace_state
  exact pc_ans key (AV.le_agg (leL_cons (AV.le_refl _) (leL_cons (AV.le_refl _) (leL_cons (AV.le_refl _) (leL_cons (AV.le_refl _) (leL_cons (AV.le_refl _) (leL_cons fin_nil leL_nil)))))))
theorem clone_spans (l : List Span) (hl : l.length ≤ 1000000000000) : PC Try.prog 64 [spansV l] (spansV l) := by
  by_cases h0 : l = []
  · subst h0
    refine pc_nil ?_ ?_
    · refine pc_w' c_slices_Clone_api_Span_api_Span ?_
      unfold B_slices_Clone_api_Span_api_Span
      (repeat' (first | (simp (disch := omega) only [push_cast, ↓zz, seval]) | (with_reducible refine And.intro ?_ ?_) | (with_reducible refine condW_split ?_ ?_ <;> intro hc <;> (try simp only [push_cast] at hc)) | (with_reducible refine guardW_split ?_ ?_ <;> intro hc <;> (try simp only [push_cast] at hc)) | omega | (with_reducible intro _)))
    · refine pc_w' c_slices_Clone_api_Span_api_Span ?_
      unfold B_slices_Clone_api_Span_api_Span
      (repeat' (first | (simp (disch := omega) only [push_cast, ↓zz, seval]) | (with_reducible refine And.intro ?_ ?_) | (with_reducible refine condW_split ?_ ?_ <;> intro hc <;> (try simp only [push_cast] at hc)) | (with_reducible refine guardW_split ?_ ?_ <;> intro hc <;> (try simp only [push_cast] at hc)) | omega | (with_reducible intro _)))
  refine pc_w' c_slices_Clone_api_Span_api_Span ?_
  unfold B_slices_Clone_api_Span_api_Span
  (repeat' (first | (simp (disch := omega) only [push_cast, ↓zz, seval]) | (with_reducible refine And.intro ?_ ?_) | (with_reducible refine condW_split ?_ ?_ <;> intro hc <;> (try simp only [push_cast] at hc)) | (with_reducible refine guardW_split ?_ ?_ <;> intro hc <;> (try simp only [push_cast] at hc)) | omega | (with_reducible intro _)))
  all_goals trace_state
theorem desc_copied (gs : List (List Span)) (hl : gs.length ≤ 1000000) (hg : ∀ g ∈ gs, g.length ≤ 1000000) : PC Try.prog 48 [guardsV gs] (guardsV gs) := by
  have hP := pure_guards gs
  refine pc_w' c_desc_copied ?_
  unfold B_desc_copied
  (repeat' (first | (simp (disch := omega) only [push_cast, ↓zz, seval]) | (with_reducible refine And.intro ?_ ?_) | (with_reducible refine condW_split ?_ ?_ <;> intro hc <;> (try simp only [push_cast] at hc)) | (with_reducible refine guardW_split ?_ ?_ <;> intro hc <;> (try simp only [push_cast] at hc)) | omega | (with_reducible intro _)))
  refine LoopK_T (T_loopR (fun (k : Nat) => k ≤ gs.length) (fun k => gs.length - k)
    (fun k => [(3, .ref 0 1 0 k), (6, guardsV gs), (7, .int .i64 gs.length), (8, .int .i64 k)]) (fun k => [⟨1, 1, false, (gs.take k).map spansV⟩]) (fun env _ => [srcOf 1 (env 3)]) 0 (by simp) ?_ ?_)
  · (repeat' (first | (simp (disch := omega) only [push_cast, ↓zz, seval, hP]) | (with_reducible refine And.intro ?_ ?_) | (with_reducible refine condW_split ?_ ?_ <;> intro hc <;> (try simp only [push_cast] at hc)) | (with_reducible refine guardW_split ?_ ?_ <;> intro hc <;> (try simp only [push_cast] at hc)) | omega | (with_reducible intro _)))
  intro k hk
  have hpk := pure_guards (gs.take k)
  rcases Nat.lt_or_ge k gs.length with hkl | hkl
  · have hC := clone_spans (nth gs k) (by have := hg _ (nth_mem hkl); omega)
    have e1 : (gs.take (k + 1)).map spansV = (gs.take k).map spansV ++ [spansV (nth gs k)] := by rw [take_at hkl]; simp
    have hlm : ((gs.take k).map spansV).length = k := by simp; omega
    generalize hgl : (gs.take k).map spansV = L at *
    refine W_T ?_
    (repeat' (first | (simp (disch := omega) only [push_cast, ↓zz, seval, hP, hpk, hlm]) | (with_reducible refine And.intro ?_ ?_) | (with_reducible refine condW_split ?_ ?_ <;> intro hc <;> (try simp only [push_cast] at hc)) | (with_reducible refine guardW_split ?_ ?_ <;> intro hc <;> (try simp only [push_cast] at hc)) | ((with_reducible first | refine eK hC ?_ | refine eQ hC ?_ | refine eG hC ?_)) | ((with_reducible first | refine cK hC ?_ | refine cQ hC ?_ | refine cG hC ?_); (simp (disch := omega) only [push_cast, ↓zz, seval, hP, hpk, hlm]); (fail_if_success (with_reducible change False))) | omega | (with_reducible intro _)))
    all_goals
      refine ⟨k + 1, ?_⟩
      (repeat' (first | (simp (disch := omega) only [push_cast, ↓zz, seval, e1]) | (with_reducible refine And.intro ?_ ?_) | (with_reducible refine condW_split ?_ ?_ <;> intro hc <;> (try simp only [push_cast] at hc)) | (with_reducible refine guardW_split ?_ ?_ <;> intro hc <;> (try simp only [push_cast] at hc)) | omega | (with_reducible intro _)))
  · obtain rfl : k = gs.length := by omega
    have et : List.take gs.length gs = gs := List.take_of_length_le (by simp)
    rw [et] at hpk ⊢
    refine W_T ?_
    (repeat' (first | (simp (disch := omega) only [push_cast, ↓zz, seval, hP, hpk, et]) | (with_reducible refine And.intro ?_ ?_) | (with_reducible refine condW_split ?_ ?_ <;> intro hc <;> (try simp only [push_cast] at hc)) | (with_reducible refine guardW_split ?_ ?_ <;> intro hc <;> (try simp only [push_cast] at hc)) | omega | (with_reducible intro _)))
    all_goals trace_state
theorem desc_terms (l : List Term) (hl : l.length ≤ 1000000) (hg : ∀ t ∈ l, t.parts.length ≤ 1000000) : PC Try.prog 49 [termsV l] (termsV l) := by
  have hT := pure_terms l
  refine pc_w' c_desc_terms ?_
  unfold B_desc_terms
  (repeat' (first | (simp (disch := omega) only [push_cast, ↓zz, seval]) | (with_reducible refine And.intro ?_ ?_) | (with_reducible refine condW_split ?_ ?_ <;> intro hc <;> (try simp only [push_cast] at hc)) | (with_reducible refine guardW_split ?_ ?_ <;> intro hc <;> (try simp only [push_cast] at hc)) | omega | (with_reducible intro _)))
  refine LoopK_T (T_loopR (fun (k : Nat) => k ≤ l.length) (fun k => l.length - k)
    (fun k => [(3, .ref 0 1 0 k), (6, termsV l), (7, .int .i64 l.length), (8, .int .i64 k)]) (fun k => [⟨6, 1, false, (l.take k).map termV⟩]) (fun env _ => [srcOf 6 (env 3)]) 0 (by simp) ?_ ?_)
  · (repeat' (first | (simp (disch := omega) only [push_cast, ↓zz, seval, hT]) | (with_reducible refine And.intro ?_ ?_) | (with_reducible refine condW_split ?_ ?_ <;> intro hc <;> (try simp only [push_cast] at hc)) | (with_reducible refine guardW_split ?_ ?_ <;> intro hc <;> (try simp only [push_cast] at hc)) | omega | (with_reducible intro _)))
  intro k hk
  have hpk := pure_terms (l.take k)
  rcases Nat.lt_or_ge k l.length with hkl | hkl
  · have hgt := hg _ (nth_mem hkl)
    have e1 : (l.take (k + 1)).map termV = (l.take k).map termV ++ [termV (nth l k)] := by rw [take_at hkl]; simp
    have hlm : ((l.take k).map termV).length = k := by simp; omega
    generalize hte : nth l k = t at *
    have hC := clone_parts t.parts (by omega)
    have hpp := pure_parts t.parts
    generalize hgl : (l.take k).map termV = L at *
    refine W_T ?_
    (repeat' (first | (simp (disch := omega) only [push_cast, ↓zz, seval, hT, hpk, hlm, hte, hpp]) | (with_reducible refine And.intro ?_ ?_) | (with_reducible refine condW_split ?_ ?_ <;> intro hc <;> (try simp only [push_cast] at hc)) | (with_reducible refine guardW_split ?_ ?_ <;> intro hc <;> (try simp only [push_cast] at hc)) | ((with_reducible first | refine eK hC ?_ | refine eQ hC ?_ | refine eG hC ?_)) | ((with_reducible first | refine cK hC ?_ | refine cQ hC ?_ | refine cG hC ?_); (simp (disch := omega) only [push_cast, ↓zz, seval, hT, hpk, hlm, hte, hpp]); (fail_if_success (with_reducible change False))) | omega | (with_reducible intro _)))
    all_goals
      refine ⟨k + 1, ?_⟩
      (repeat' (first | (simp (disch := omega) only [push_cast, ↓zz, seval, e1]) | (with_reducible refine And.intro ?_ ?_) | (with_reducible refine condW_split ?_ ?_ <;> intro hc <;> (try simp only [push_cast] at hc)) | (with_reducible refine guardW_split ?_ ?_ <;> intro hc <;> (try simp only [push_cast] at hc)) | omega | (with_reducible intro _)))
  · obtain rfl : k = l.length := by omega
    have et : List.take l.length l = l := List.take_of_length_le (by simp)
    rw [et] at hpk ⊢
    refine W_T ?_
    (repeat' (first | (simp (disch := omega) only [push_cast, ↓zz, seval, hT, hpk, et]) | (with_reducible refine And.intro ?_ ?_) | (with_reducible refine condW_split ?_ ?_ <;> intro hc <;> (try simp only [push_cast] at hc)) | (with_reducible refine guardW_split ?_ ?_ <;> intro hc <;> (try simp only [push_cast] at hc)) | omega | (with_reducible intro _)))
    all_goals trace_state
end Go.Proofs.Yticodgjinajkpaa
set_option linter.unusedSimpArgs false
set_option linter.unusedVariables false
namespace Go.Proofs.Yticodgjinajkpaa
open Abs
theorem quo_ex {lo hi D q : Int} (hD : 0 < D) (h : lo ≤ hi) : (∃ x, lo ≤ x ∧ x ≤ hi ∧ x / D = q) ↔ lo / D ≤ q ∧ q ≤ hi / D := by
  constructor
  · rintro ⟨x, h1, h2, rfl⟩
    exact ⟨Int.ediv_le_ediv hD h1, Int.ediv_le_ediv hD h2⟩
  · rintro ⟨h1, h2⟩
    rcases Int.lt_or_eq_of_le h1 with h3 | h3
    · refine ⟨q * D, ?_, ?_, Int.mul_ediv_cancel _ (by omega)⟩
      · have := (Int.ediv_lt_iff_lt_mul hD).1 h3; omega
      · exact (Int.le_ediv_iff_mul_le hD).1 h2
    · exact ⟨lo, Int.le_refl _, h, h3⟩
theorem quo_step {x y M : Int} (hM : 0 < M) (h1 : x ≤ y) (h2 : y - x < M) : y / M = x / M ∨ y / M = x / M + 1 := by
  have a := Int.ediv_le_ediv hM h1
  have c : y / M ≤ (x + M * 1) / M := Int.ediv_le_ediv hM (by omega)
  rw [Int.add_mul_ediv_left _ _ (by omega)] at c
  omega
theorem mod_back {w M k : Int} (h : 0 ≤ w ∧ w < M) : (M * k + w) % M = w := by
  rw [Int.add_comm, Int.add_mul_emod_self_left, Int.emod_eq_of_lt h.1 h.2]
theorem mod_range {a b M w : Int} (hM : 0 < M) (hab : a ≤ b) (hs : b - a < M - 1) :
    (∃ q, a ≤ q ∧ q ≤ b ∧ q % M = w) ↔ if a % M ≤ b % M then a % M ≤ w ∧ w ≤ b % M else (0 ≤ w ∧ w ≤ b % M) ∨ (a % M ≤ w ∧ w ≤ M - 1) := by
  have ea := Int.mul_ediv_add_emod a M
  have eb := Int.mul_ediv_add_emod b M
  have a1 := Int.emod_nonneg a (by omega : M ≠ 0)
  have a2 := Int.emod_lt_of_pos a hM
  have b1 := Int.emod_nonneg b (by omega : M ≠ 0)
  have b2 := Int.emod_lt_of_pos b hM
  constructor
  · rintro ⟨q, h1, h2, rfl⟩
    have eq := Int.mul_ediv_add_emod q M
    have q1 := Int.emod_nonneg q (by omega : M ≠ 0)
    have q2 := Int.emod_lt_of_pos q hM
    have k1 := quo_step hM hab (by omega)
    have k2 := quo_step hM h1 (by omega)
    have e1 : M * (a / M + 1) = M * (a / M) + M := by rw [Int.mul_add, Int.mul_one]
    rcases k1 with k1 | k1 <;> rcases k2 with k2 | k2 <;> rw [k1] at eb <;> rw [k2] at eq <;> (try rw [e1] at eb) <;> (try rw [e1] at eq) <;> split <;> omega
  · intro h
    have k1 := quo_step hM hab (by omega)
    have e1 : M * (a / M + 1) = M * (a / M) + M := by rw [Int.mul_add, Int.mul_one]
    rcases k1 with k1 | k1
    · rw [k1] at eb
      rw [if_pos (by omega)] at h
      exact ⟨M * (a / M) + w, by omega, by omega, mod_back (by omega)⟩
    · rw [k1, e1] at eb
      rw [if_neg (by omega)] at h
      rcases h with h | h
      · exact ⟨M * (a / M + 1) + w, by omega, by omega, mod_back (by omega)⟩
      · exact ⟨M * (a / M) + w, by omega, by omega, mod_back (by omega)⟩
theorem mod_full {a b M w : Int} (hM : 0 < M) (hs : M - 1 ≤ b - a) : (∃ q, a ≤ q ∧ q ≤ b ∧ q % M = w) ↔ 0 ≤ w ∧ w ≤ M - 1 := by
  constructor
  · rintro ⟨q, _, _, rfl⟩
    have q1 := Int.emod_nonneg q (by omega : M ≠ 0)
    have q2 := Int.emod_lt_of_pos q hM
    omega
  · intro h
    have e := Int.mul_ediv_add_emod (w - a) M
    have q1 := Int.emod_nonneg (w - a) (by omega : M ≠ 0)
    have q2 := Int.emod_lt_of_pos (w - a) hM
    refine ⟨a + (w - a) % M, by omega, by omega, ?_⟩
    have : a + (w - a) % M = M * (-((w - a) / M)) + w := by rw [Int.mul_neg]; omega
    rw [this, mod_back (by omega)]
theorem imgS_mem {d t : Nat} {s : Span} {w : Int} (hs : s.lo ≤ s.hi) (hn : ¬ (2 ^ t - 1 : Int) ≤ s.hi / 2 ^ d - s.lo / 2 ^ d) : memL (imgS d t s) w ↔ ∃ x, (s.lo ≤ x ∧ x ≤ s.hi) ∧ x / 2 ^ d % 2 ^ t = w := by
  have hD : (0 : Int) < 2 ^ d := Int.pow_pos (by decide)
  have hT : (0 : Int) < 2 ^ t := Int.pow_pos (by decide)
  have hab := Int.ediv_le_ediv hD hs
  have key : (∃ x, (s.lo ≤ x ∧ x ≤ s.hi) ∧ x / 2 ^ d % 2 ^ t = w) ↔ ∃ q, s.lo / 2 ^ d ≤ q ∧ q ≤ s.hi / 2 ^ d ∧ q % 2 ^ t = w := by
    constructor
    · rintro ⟨x, ⟨h1, h2⟩, h3⟩
      exact ⟨x / 2 ^ d, Int.ediv_le_ediv hD h1, Int.ediv_le_ediv hD h2, h3⟩
    · rintro ⟨q, h1, h2, h3⟩
      obtain ⟨x, k1, k2, k3⟩ := (quo_ex hD hs).2 ⟨h1, h2⟩
      exact ⟨x, ⟨k1, k2⟩, by rw [k3]; exact h3⟩
  rw [key, mod_range hT hab (by omega), imgS]
  split
  · simp [memL_cons, memL_nil]
  · simp [memL_cons, memL_nil]
theorem imgF_mem {d t : Nat} {w : Int} : ∀ (l out : List Span), (∀ s ∈ l, s.lo ≤ s.hi) → (∀ v, memL out v → 0 ≤ v ∧ v ≤ 2 ^ t - 1) → (memL (imgF d t l out) w ↔ memL out w ∨ ∃ x, memL l x ∧ x / 2 ^ d % 2 ^ t = w)
  | [], out, _, _ => by simp [imgF, memL_nil]
  | s :: l, out, h, ho => by
    have hD : (0 : Int) < 2 ^ d := Int.pow_pos (by decide)
    have hT : (0 : Int) < 2 ^ t := Int.pow_pos (by decide)
    have hs := h s (by simp)
    rw [imgF]
    split
    · rename_i hb
      have hf := mod_full (w := w) hT hb
      constructor
      · intro hw
        have hw' : 0 ≤ w ∧ w ≤ 2 ^ t - 1 := by simpa [allS, memL_cons, memL_nil] using hw
        obtain ⟨q, h1, h2, h3⟩ := hf.2 hw'
        obtain ⟨x, k1, k2, k3⟩ := (quo_ex hD hs).2 ⟨h1, h2⟩
        exact .inr ⟨x, memL_cons.2 (.inl ⟨k1, k2⟩), by rw [k3]; exact h3⟩
      · intro hw
        have : 0 ≤ w ∧ w ≤ 2 ^ t - 1 := by
          rcases hw with hw | ⟨x, _, rfl⟩
          · exact ho w hw
          · have q1 := Int.emod_nonneg (x / 2 ^ d) (by omega : (2 : Int) ^ t ≠ 0)
            have q2 := Int.emod_lt_of_pos (x / 2 ^ d) hT
            omega
        simpa [allS, memL_cons, memL_nil] using this
    · rename_i hb
      rw [imgF_mem l _ (fun s hs => h s (by simp [hs])) (fun v hv => ?_), memL_app, imgS_mem hs hb]
      · constructor
        · rintro ((h1 | ⟨x, h1, h2⟩) | ⟨x, h1, h2⟩)
          · exact .inl h1
          · exact .inr ⟨x, memL_cons.2 (.inl h1), h2⟩
          · exact .inr ⟨x, memL_cons.2 (.inr h1), h2⟩
        · rintro (h1 | ⟨x, h1, h2⟩)
          · exact .inl (.inl h1)
          · rcases memL_cons.1 h1 with h1 | h1
            · exact .inl (.inr ⟨x, h1, h2⟩)
            · exact .inr ⟨x, h1, h2⟩
      · rcases memL_app.1 hv with hv | hv
        · exact ho v hv
        · obtain ⟨x, _, rfl⟩ := (imgS_mem hs hb).1 hv
          have q1 := Int.emod_nonneg (x / 2 ^ d) (by omega : (2 : Int) ^ t ≠ 0)
          have q2 := Int.emod_lt_of_pos (x / 2 ^ d) hT
          omega
theorem mem_map {α : Type} {f : α → Span} {l : List α} {v : Int} : memL (l.map f) v ↔ ∃ a ∈ l, (f a).lo ≤ v ∧ v ≤ (f a).hi := by
  simp only [memL, List.mem_map]
  exact ⟨fun ⟨_, ⟨a, h, rfl⟩, h2⟩ => ⟨a, h, h2⟩, fun ⟨a, h, h2⟩ => ⟨_, ⟨a, h, rfl⟩, h2⟩⟩
theorem img_spec {p : Part} (s : List Span) (hb : bitsB p = true) : Plain (imgL p s) ∧ ∀ v, memL (imgL p s) v ↔ ∃ x, memL s x ∧ (0 ≤ x ∧ x ≤ 2097151) ∧ valP p x = v := by
  have hbi := bits_iff.1 hb
  have ht := pow21 p.take.toNat (by omega)
  have hT : (0 : Int) < 2 ^ p.take.toNat := Int.pow_pos (by decide)
  obtain ⟨m1, m2, m3⟩ := meet_top s
  have hF : ∀ w, memL (imgF p.drop.toNat p.take.toNat (meetL (normI s) (normI topS)) []) w ↔ ∃ x, (memL s x ∧ 0 ≤ x ∧ x ≤ 2097151) ∧ x / 2 ^ p.drop.toNat % 2 ^ p.take.toNat = w := fun w => by
    rw [imgF_mem _ _ (fun t ht => (m2 t ht).2.1) (fun v hv => absurd hv (memL_nil v))]
    simp only [memL_nil, false_or, m3]
  have hr : ∀ w, memL (imgF p.drop.toNat p.take.toNat (meetL (normI s) (normI topS)) []) w → 0 ≤ w ∧ w ≤ 2 ^ p.take.toNat - 1 := fun w hw => by
    obtain ⟨x, _, rfl⟩ := (hF w).1 hw
    have q1 := Int.emod_nonneg (x / 2 ^ p.drop.toNat) (by omega : (2 : Int) ^ p.take.toNat ≠ 0)
    have q2 := Int.emod_lt_of_pos (x / 2 ^ p.drop.toNat) hT
    omega
  unfold imgL
  rw [if_neg (by simp [hb])]
  split
  · rename_i hu
    refine ⟨(normI_plain _).1, fun v => ?_⟩
    rw [(normI_plain _).2 v, hF]
    have e : ∀ x, valP p x = x / 2 ^ p.drop.toNat % 2 ^ p.take.toNat := fun x => by simp [valP, hu]
    constructor
    · rintro ⟨⟨x, ⟨h1, h2⟩, h3⟩, _⟩
      exact ⟨x, h1, h2, by rw [e]; exact h3⟩
    · rintro ⟨x, h1, h2, h3⟩
      rw [e] at h3
      have := hr v ((hF v).2 ⟨x, ⟨h1, h2⟩, h3⟩)
      exact ⟨⟨x, ⟨h1, h2⟩, h3⟩, by omega⟩
  · rename_i hu
    refine ⟨(normI_plain _).1, fun v => ?_⟩
    rw [(normI_plain _).2 v, mem_map]
    constructor
    · rintro ⟨⟨n, hn, h1, h2⟩, _⟩
      simp only [oneS] at h1 h2
      have hn' := nums_mem.1 hn
      rw [(normI_plain _).2, (normI_plain _).2] at hn'
      obtain ⟨x, ⟨k1, k2⟩, k3⟩ := (hF n).1 hn'.1.1
      exact ⟨x, k1, k2, by rw [valP, k3]; omega⟩
    · rintro ⟨x, h1, h2, h3⟩
      have hv := valP_small hb h2
      have hm := (hF (x / 2 ^ p.drop.toNat % 2 ^ p.take.toNat)).2 ⟨x, ⟨h1, h2⟩, rfl⟩
      have := hr _ hm
      refine ⟨⟨x / 2 ^ p.drop.toNat % 2 ^ p.take.toNat, nums_mem.2 ?_, ?_⟩, by omega⟩
      · rw [(normI_plain _).2, (normI_plain _).2]
        exact ⟨⟨hm, by omega⟩, by omega⟩
      · rw [valP] at h3
        simp only [oneS]
        omega
def Full (l : List Span) : Prop := ∀ s ∈ l, s.lo ≤ s.hi
theorem plus_spec {a b : List Span} (ha : Full a) (hb : Full b) : Plain (plusL a b) ∧ ∀ v, memL (plusL a b) v ↔ (∃ x y, memL a x ∧ memL b y ∧ x + y = v) ∧ -1073741824 ≤ v ∧ v ≤ 1073741824 := by
  refine ⟨(normI_plain _).1, fun v => ?_⟩
  rw [plusL, (normI_plain _).2 v, rowsP, mem_flat]
  refine and_congr_left fun _ => ?_
  constructor
  · rintro ⟨s, hs, h⟩
    obtain ⟨r, hr, h1, h2⟩ := mem_map.1 h
    simp only [sumS] at h1 h2
    have k1 := ha s hs
    have k2 := hb r hr
    refine ⟨max s.lo (v - r.hi), v - max s.lo (v - r.hi), ⟨s, hs, by omega, by omega⟩, ⟨r, hr, by omega, by omega⟩, by omega⟩
  · rintro ⟨x, y, ⟨s, hs, h1, h2⟩, ⟨r, hr, h3, h4⟩, rfl⟩
    exact ⟨s, hs, mem_map.2 ⟨r, hr, by simp only [sumS]; omega, by simp only [sumS]; omega⟩⟩
theorem addS_full {out : List Span} {n : Int} (h : Full out) : Full (addS out ⟨n, n⟩) ∧ ∀ v, memL (addS out ⟨n, n⟩) v ↔ memL out v ∨ v = n := by
  rcases snoc_cases out with rfl | ⟨m, y, rfl⟩
  · refine ⟨fun s hs => ?_, fun v => ?_⟩
    · simp only [addS_nil, List.mem_singleton] at hs; subst hs; simp
    · rw [addS_nil, memL_cons]; simp only [memL_nil, or_false, false_or]; omega
  · have hy := h y (by simp)
    rw [addS_snoc]
    simp only
    split
    · rename_i he
      refine ⟨fun s hs => ?_, fun v => ?_⟩
      · rcases List.mem_append.1 hs with hs | hs
        · exact h s (by simp [hs])
        · simp only [List.mem_singleton] at hs; subst hs; simp only; omega
      · rw [memL_app, memL_app, memL_cons, memL_cons]
        simp only [memL_nil, or_false]
        constructor
        · rintro (h1 | h1)
          · exact .inl (.inl h1)
          · by_cases hv : v = n
            · exact .inr hv
            · exact .inl (.inr (by omega))
        · rintro ((h1 | h1) | h1)
          · exact .inl h1
          · exact .inr (by omega)
          · exact .inr (by omega)
    · refine ⟨fun s hs => ?_, fun v => ?_⟩
      · rcases List.mem_append.1 hs with hs | hs
        · exact h s hs
        · simp only [List.mem_singleton] at hs; subst hs; simp
      · rw [memL_app, memL_cons]
        simp only [memL_nil, or_false]
        have : (n ≤ v ∧ v ≤ n) ↔ v = n := by omega
        rw [this]
theorem tog_fold (l : List Part) {v : Int} : ∀ (m : List Int) (out : List Span), Full out → (memL (m.foldl (togF l) out) v ↔ memL out v ∨ ∃ x ∈ m, totV l x = v)
  | [], out, _ => by simp
  | x :: m, out, h => by
    obtain ⟨h1, h2⟩ := addS_full (n := totV l x) h
    rw [List.foldl_cons, togF, tog_fold l m _ h1, h2]
    simp only [List.mem_cons, exists_eq_or_imp]
    constructor
    · rintro ((h | h) | h)
      · exact .inl h
      · exact .inr (.inl h.symm)
      · exact .inr (.inr h)
    · rintro (h | h | h)
      · exact .inl (.inl h)
      · exact .inl (.inr h.symm)
      · exact .inr h
theorem tog_spec {l : List Part} {s : List Span} (hl : l.length ≤ 4) (hb : ∀ p ∈ l, bitsB p = true) (hs : Syms s) : Plain (togL l s) ∧ ∀ v, memL (togL l s) v ↔ ∃ x, memL s x ∧ totV l x = v := by
  unfold togL
  split
  · rename_i h1
    obtain ⟨p, rfl⟩ := List.length_eq_one_iff.1 h1
    obtain ⟨i1, i2⟩ := img_spec s (hb p (by simp))
    refine ⟨i1, fun v => ?_⟩
    have e : nth [p] 0 = p := rfl
    rw [e, i2]
    have e2 : ∀ x, totV [p] x = valP p x := fun x => by simp [totV]
    constructor
    · rintro ⟨x, h1, _, h3⟩; exact ⟨x, h1, by rw [e2]; exact h3⟩
    · rintro ⟨x, h1, h3⟩
      have := hs.mem h1
      exact ⟨x, h1, by omega, by rw [← e2]; exact h3⟩
  · refine ⟨(normI_plain _).1, fun v => ?_⟩
    rw [(normI_plain _).2 v, tog_fold l _ _ (fun s hs => by cases hs), syms_norm hs]
    simp only [memL_nil, false_or, nums_mem]
    constructor
    · rintro ⟨h, _⟩; exact h
    · rintro ⟨x, h1, rfl⟩
      have := hs.mem h1
      have := totV_bd (x := x) (by omega) hb
      exact ⟨⟨x, h1, rfl⟩, by omega⟩
end Go.Proofs.Yticodgjinajkpaa
set_option linter.unusedSimpArgs false
set_option linter.unusedVariables false
namespace Go.Proofs.Yticodgjinajkpaa
open Abs
def Win (sets : List (List Span)) (w : List Int) : Prop := w.length = sets.length ∧ ∀ i, i < sets.length → memL (nth sets i) (nth w i)
def sumPl (l : List Part) (pl : List Int) (w : List Int) : Int := (pl.map fun a => totV (atL l a) (nth w a.toNat)).sum
def totW (w : List Int) (l : List Part) : Int := (l.map fun p => valP p (nth w p.at_.toNat)).sum
theorem nth_set {w : List Int} {i j : Nat} {x : Int} (h : i < w.length) : nth (w.set i x) j = if j = i then x else nth w j := by
  simp only [nth, List.getD_eq_getElem?_getD, List.getElem?_set]
  split
  · subst_vars; simp [h]
  · rename_i hne; rw [if_neg (fun e => hne e.symm)]
theorem map_sum_congr {α : Type} {f g : α → Int} : ∀ {l : List α}, (∀ a ∈ l, f a = g a) → (l.map f).sum = (l.map g).sum
  | [], _ => rfl
  | a :: l, h => by simp [h a (by simp), map_sum_congr (l := l) fun b hb => h b (by simp [hb])]
theorem map_sum_add {α : Type} {f g : α → Int} : ∀ {l : List α}, (l.map fun a => f a + g a).sum = (l.map f).sum + (l.map g).sum
  | [] => rfl
  | a :: l => by
    have := map_sum_add (f := f) (g := g) (l := l)
    simp only [List.map_cons, List.sum_cons, this]
    omega
theorem map_sum_zero {α : Type} {f : α → Int} : ∀ {l : List α}, (∀ a ∈ l, f a = 0) → (l.map f).sum = 0
  | [], _ => rfl
  | a :: l, h => by simp [h a (by simp), map_sum_zero (l := l) fun b hb => h b (by simp [hb])]
theorem map_sum_one {c : Int} {g : Int → Int} : ∀ {l : List Int}, l.Nodup → c ∈ l → (l.map fun a => if c = a then g a else 0).sum = g c
  | [], _, h => by cases h
  | a :: l, hn, h => by
    obtain ⟨h1, h2⟩ := List.nodup_cons.1 hn
    by_cases e : c = a
    · subst e
      have : (l.map fun a => if c = a then g a else 0).sum = 0 := map_sum_zero fun b hb => if_neg fun (e2 : c = b) => h1 (by rw [e2]; exact hb)
      simp [this]
    · have hm : c ∈ l := by simpa [e] using h
      simp [e, map_sum_one h2 hm]
theorem sum_places (w : List Int) : ∀ (l : List Part) (pl : List Int), pl.Nodup → (∀ p ∈ l, p.at_ ∈ pl) → sumPl l pl w = totW w l
  | [], pl, _, _ => map_sum_zero fun a _ => rfl
  | p :: l, pl, hn, h => by
    have ih := sum_places w l pl hn fun q hq => h q (by simp [hq])
    have e : ∀ a ∈ pl, totV (atL (p :: l) a) (nth w a.toNat) = (if p.at_ = a then valP p (nth w a.toNat) else 0) + totV (atL l a) (nth w a.toNat) := fun a _ => by
      simp only [atL, List.filter_cons, decide_eq_true_eq]
      split
      · simp [totV]
      · simp [totV]
    rw [sumPl, map_sum_congr e, map_sum_add, map_sum_one (g := fun a => valP p (nth w a.toNat)) hn (h p (by simp))]
    rw [sumPl] at ih
    rw [ih]
    simp [totW]
theorem places_spec : ∀ (l : List Part) (pl : List Int), pl.Nodup → (l.foldl placesF pl).Nodup ∧ (∀ a, a ∈ l.foldl placesF pl ↔ a ∈ pl ∨ ∃ p ∈ l, p.at_ = a) ∧ (l.foldl placesF pl).length ≤ pl.length + l.length
  | [], pl, h => ⟨h, fun a => by simp, by simp⟩
  | p :: l, pl, h => by
    have h1 : (placesF pl p).Nodup ∧ (∀ a, a ∈ placesF pl p ↔ a ∈ pl ∨ p.at_ = a) ∧ (placesF pl p).length ≤ pl.length + 1 := by
      unfold placesF
      split
      · rename_i hm
        exact ⟨h, fun a => ⟨.inl, fun hh => hh.elim id fun e => e ▸ hm⟩, by omega⟩
      · rename_i hm
        refine ⟨List.nodup_append.2 ⟨h, by simp, fun a ha b hb => ?_⟩, fun a => by simp [eq_comm], by simp⟩
        simp only [List.mem_singleton] at hb
        subst hb
        exact fun e => hm (e ▸ ha)
    obtain ⟨k1, k2, k3⟩ := places_spec l (placesF pl p) h1.1
    refine ⟨k1, fun a => ?_, by have := h1.2.2; simp only [List.foldl_cons, List.length_cons]; omega⟩
    rw [List.foldl_cons, k2, h1.2.1]
    simp only [List.mem_cons, exists_eq_or_imp, or_assoc]
theorem full_plain {l : List Span} (h : Plain l) : Full l := h.1
theorem win_set {sets : List (List Span)} {w : List Int} {a : Nat} {x : Int} (hw : Win sets w) (ha : a < sets.length) (hx : memL (nth sets a) x) : Win sets (w.set a x) := by
  refine ⟨by simp [hw.1], fun i hi => ?_⟩
  rw [nth_set (by rw [hw.1]; exact ha)]
  split
  · subst_vars; exact hx
  · exact hw.2 i hi
theorem vals_fold {l : List Part} {sets : List (List Span)} (hS : SetsOk l sets) (hl : l.length ≤ 4) (hne : ∃ w, Win sets w) : ∀ (pl : List Int) (out : List Span), pl.Nodup → (∀ a ∈ pl, 0 ≤ a ∧ a < sets.length) → Full out → pl.length ≤ 4 →
    (∀ v, memL out v → -1114111 ≤ v ∧ v ≤ 1114111 + (4 - (pl.length : Int)) * 264241152) → Full (pl.foldl (valsF l sets) out) ∧ ∀ v, memL (pl.foldl (valsF l sets) out) v ↔ ∃ o w, memL out o ∧ Win sets w ∧ o + sumPl l pl w = v
  | [], out, _, _, hf, _, _ => ⟨hf, fun v => by
    obtain ⟨w, hw⟩ := hne
    simp only [List.foldl_nil, sumPl, List.map_nil, List.sum_nil, Int.add_zero]
    exact ⟨fun h => ⟨v, w, h, hw, rfl⟩, fun ⟨o, _, h, _, e⟩ => e ▸ h⟩⟩
  | a :: pl, out, hn, hp, hf, hlen, hb => by
    obtain ⟨n1, n2⟩ := List.nodup_cons.1 hn
    have ha := hp a (by simp)
    have hm : nth sets a.toNat ∈ sets := nth_mem (by omega)
    have hsy := hS.syms _ hm
    have hbits : ∀ p ∈ atL l a, bitsB p = true := fun p hp => by
      have := hS.parts p ((List.mem_filter.1 hp).1)
      simp only [rightB, Bool.and_eq_true] at this
      exact this.2
    have hla : (atL l a).length ≤ 4 := Nat.le_trans (List.length_filter_le _ _) hl
    obtain ⟨t1, t2⟩ := tog_spec hla hbits hsy
    obtain ⟨p1, p2⟩ := plus_spec hf (full_plain t1)
    have htot : ∀ x, memL (nth sets a.toNat) x → 0 ≤ totV (atL l a) x ∧ totV (atL l a) x ≤ 264241152 := fun x hx => by
      have := hsy.mem hx
      have := totV_bd (x := x) (by omega) hbits
      omega
    simp only [List.length_cons] at hlen hb
    have hv : ∀ v, memL (valsF l sets out a) v ↔ ∃ o x, memL out o ∧ memL (nth sets a.toNat) x ∧ o + totV (atL l a) x = v := fun v => by
      rw [valsF, p2]
      constructor
      · rintro ⟨⟨o, y, h1, h2, h3⟩, _⟩
        obtain ⟨x, k1, k2⟩ := (t2 y).1 h2
        exact ⟨o, x, h1, k1, by rw [k2]; exact h3⟩
      · rintro ⟨o, x, h1, h2, rfl⟩
        have := hb o h1
        have := htot x h2
        push_cast at *
        exact ⟨⟨o, _, h1, (t2 _).2 ⟨x, h2, rfl⟩, rfl⟩, by omega, by omega⟩
    obtain ⟨i1, i2⟩ := vals_fold hS hl hne pl (valsF l sets out a) n2 (fun b hb => hp b (by simp [hb])) (full_plain p1) (by omega) (fun v h => by
      obtain ⟨o, x, h1, h2, rfl⟩ := (hv v).1 h
      have := hb o h1
      have := htot x h2
      push_cast at *
      omega)
    refine ⟨i1, fun v => ?_⟩
    rw [List.foldl_cons, i2]
    constructor
    · rintro ⟨u, w, h1, hw, rfl⟩
      obtain ⟨o, x, k1, k2, rfl⟩ := (hv u).1 h1
      refine ⟨o, w.set a.toNat x, k1, win_set hw (by omega) k2, ?_⟩
      have e1 : sumPl l pl (w.set a.toNat x) = sumPl l pl w := map_sum_congr fun b hb => by
        have := hp b (by simp [hb])
        rw [nth_set (by rw [hw.1]; omega), if_neg]
        intro e
        exact n1 ((show b = a by omega) ▸ hb)
      have e2 : sumPl l (a :: pl) (w.set a.toNat x) = totV (atL l a) x + sumPl l pl (w.set a.toNat x) := by
        simp only [sumPl, List.map_cons, List.sum_cons]
        rw [nth_set (by rw [hw.1]; omega), if_pos rfl]
      rw [e2, e1]
      omega
    · rintro ⟨o, w, h1, hw, rfl⟩
      have hx := hw.2 a.toNat (by omega)
      refine ⟨o + totV (atL l a) (nth w a.toNat), w, (hv _).2 ⟨o, _, h1, hx, rfl⟩, hw, ?_⟩
      simp only [sumPl, List.map_cons, List.sum_cons]
      omega
theorem full_one (x : Int) : Full [⟨x, x⟩] := fun s hs => by simp only [List.mem_singleton] at hs; subst hs; simp
theorem mem_one {x v : Int} : memL [⟨x, x⟩] v ↔ v = x := by rw [memL_cons]; simp only [memL_nil, or_false]; omega
theorem vals_spec {t : Term} {sets : List (List Span)} (hS : SetsOk t.parts sets) (hl : t.parts.length ≤ 4) (hs : smallB t.sum = true) (hne : ∃ w, Win sets w) : Full (valsL t sets) ∧ ∀ v, memL (valsL t sets) v ↔ ∃ w, Win sets w ∧ t.sum + totW w t.parts = v := by
  obtain ⟨k1, k2, k3⟩ := places_spec t.parts [] (by simp)
  have hsm := small_bd hs
  simp only [List.length_nil] at k3
  have hat : ∀ a, a ∈ placesL t.parts → 0 ≤ a ∧ a < sets.length := fun a ha => by
    obtain h | ⟨p, hp, rfl⟩ := (k2 a).1 ha
    · cases h
    · exact right_at (hS.parts p hp)
  obtain ⟨h1, h2⟩ := vals_fold hS hl hne (placesL t.parts) [⟨t.sum, t.sum⟩] k1 hat (full_one _) (by rw [placesL]; omega) (fun v hv => by
    rw [mem_one] at hv
    have : (placesL t.parts).length ≤ 4 := by rw [placesL]; omega
    omega)
  refine ⟨h1, fun v => ?_⟩
  rw [valsL, h2]
  constructor
  · rintro ⟨o, w, e, hw, rfl⟩
    rw [mem_one] at e
    exact ⟨w, hw, by rw [e, placesL, sum_places w _ _ k1 fun p hp => (k2 _).2 (.inr ⟨p, hp, rfl⟩)]⟩
  · rintro ⟨w, hw, rfl⟩
    exact ⟨_, w, mem_one.2 rfl, hw, by rw [placesL, sum_places w _ _ k1 fun p hp => (k2 _).2 (.inr ⟨p, hp, rfl⟩)]⟩
theorem totW_bd {w : List Int} {n : Int} : ∀ {l : List Part}, (∀ p ∈ l, rightB p n = true) → (∀ p ∈ l, 0 ≤ nth w p.at_.toNat ∧ nth w p.at_.toNat ≤ 1114111) → totP w l = totW w l ∧ 0 ≤ totW w l ∧ totW w l ≤ l.length * 66060288
  | [], _, _ => by simp [totP, totW]
  | p :: l, h, hx => by
    obtain ⟨i1, i2, i3⟩ := totW_bd (l := l) (fun q hq => h q (by simp [hq])) (fun q hq => hx q (by simp [hq]))
    have hr := h p (by simp)
    simp only [rightB, Bool.and_eq_true] at hr
    have hxp := hx p (by simp)
    have hv := valP_small hr.2 (x := nth w p.at_.toNat) (by omega)
    have e1 : val1 p (nth w p.at_.toNat) = valP p (nth w p.at_.toNat) := (val_yes hr.2 (by omega)).2
    have e2 : totW w (p :: l) = valP p (nth w p.at_.toNat) + totW w l := by simp [totW]
    rw [totP, e1, e2, i1]
    refine ⟨rfl, by omega, ?_⟩
    push_cast [List.length_cons]
    omega
theorem value_win {t : Term} {sets : List (List Span)} {w : List Int} (hS : SetsOk t.parts sets) (hn : numbersB t = true) (hw : Win sets w) :
    valueT t w = if 0 ≤ t.sum + totW w t.parts ∧ t.sum + totW w t.parts ≤ 1114111 then some (t.base + valP t.outer (t.sum + totW w t.parts)) else none := by
  simp only [numbersB, Bool.and_eq_true, decide_eq_true_eq] at hn
  obtain ⟨⟨⟨hb, hs⟩, ho⟩, _, hl⟩ := hn
  have hsm := small_bd hs
  have hbm := small_bd hb
  have hsym : ∀ i, i < sets.length → 0 ≤ nth w i ∧ nth w i ≤ 1114111 := fun i hi => (hS.syms _ (nth_mem hi)).mem (hw.2 i hi)
  obtain ⟨e1, b1, b2⟩ := totW_bd (w := w) hS.parts (fun p hp => by
    have := right_at (hS.parts p hp)
    exact hsym _ (by omega))
  have hall : w.all symB = true := by
    rw [List.all_eq_true]
    intro x hx
    obtain ⟨i, hi, rfl⟩ := List.getElem_of_mem hx
    have := hsym i (by rw [← hw.1]; exact hi)
    have e : nth w i = w[i] := by simp [nth, hi]
    rw [e] at this
    simp [symB]; omega
  have hright : rightsL w t.parts = true := by
    rw [rightsL, List.all_eq_true]
    intro p hp
    rw [hw.1]
    exact hS.parts p hp
  have hsum := sum_tot w t.parts t.sum (wr_in (by omega))
  rw [if_pos hright, e1, wr_in (by omega)] at hsum
  unfold valueT
  rw [if_pos hall, hsum]
  simp only
  by_cases h : 0 ≤ t.sum + totW w t.parts ∧ t.sum + totW w t.parts ≤ 1114111
  · have hvb : valB t.outer (t.sum + totW w t.parts) = true := (val_yes ho (by omega)).1
    have hv2 := valP_small ho (x := t.sum + totW w t.parts) (by omega)
    rw [if_pos h, if_pos (by simp [hvb]; omega), show IntKind.i64.wrap (t.base + valP t.outer (t.sum + totW w t.parts)) = t.base + valP t.outer (t.sum + totW w t.parts) from IntWalk.i64_in _ (by omega)]
  · rw [if_neg h, if_neg]
    simp only [valB, ho, Bool.true_and, Bool.and_eq_true, decide_eq_true_eq]
    omega
end Go.Proofs.Yticodgjinajkpaa
set_option linter.unusedSimpArgs false
set_option linter.unusedVariables false
namespace Go.Proofs.Yticodgjinajkpaa
open Abs
theorem plain_ends : ∀ {m : List Span}, Plain m → m ≠ [] → ∃ a b, firstI m = some a ∧ lastI m = some b ∧ memL m a ∧ memL m b ∧ ∀ v, memL m v → a ≤ v ∧ v ≤ b
  | [], _, h => absurd rfl h
  | [s], h, _ => by
    have := h.head
    refine ⟨s.lo, s.hi, rfl, rfl, memL_cons.2 (.inl (by omega)), memL_cons.2 (.inl (by omega)), fun v hv => ?_⟩
    rw [memL_cons] at hv
    simpa [memL_nil] using hv
  | s :: r :: m, h, _ => by
    have hs := h.head
    obtain ⟨a, b, e1, e2, h1, h2, h3⟩ := plain_ends h.tail (by simp)
    have hb := h.after h2
    refine ⟨s.lo, b, rfl, ?_, memL_cons.2 (.inl (by omega)), memL_cons.2 (.inr h2), fun v hv => ?_⟩
    · simpa [lastI] using e2
    · rcases memL_cons.1 hv with h4 | h4
      · omega
      · have := h.after h4
        have := h3 v h4
        omega
theorem not_nil {l : List Span} {v : Int} (h : memL l v) : l ≠ [] := by rintro rfl; exact memL_nil v h
theorem inSym_spec {l : List Span} {u : Int} (hu : memL l u) (hb : ∀ v, memL l v → -1073741824 ≤ v ∧ v ≤ 1073741824) : inSym l = true ↔ ∀ v, memL l v → 0 ≤ v ∧ v ≤ 1114111 := by
  obtain ⟨p1, p2⟩ := normI_plain l
  have hm : ∀ v, memL (normI l) v ↔ memL l v := fun v => by rw [p2]; exact ⟨fun h => h.1, fun h => ⟨h, hb v h⟩⟩
  obtain ⟨a, b, e1, e2, h1, h2, h3⟩ := plain_ends p1 (not_nil ((hm u).2 hu))
  have hl : 0 < (l.length : Int) := by
    have := List.length_pos_iff.2 (not_nil hu)
    omega
  simp only [inSym, e1, e2, Option.getD_some, Bool.and_eq_true, decide_eq_true_eq]
  constructor
  · rintro ⟨_, k1, k2⟩ v hv
    have := h3 v ((hm v).2 hv)
    omega
  · intro h
    exact ⟨hl, (h a ((hm a).1 h1)).1, (h b ((hm b).1 h2)).2⟩
theorem win_some {gs : List (List Span)} : someB gs gs.length = true ↔ ∃ w, Win (gs.map symI) w := by
  rw [someB, List.take_length, List.all_eq_true]
  constructor
  · intro h
    refine ⟨(gs.map symI).map fun s => (nth s 0).lo, by simp, fun i hi => ?_⟩
    have hi' : i < gs.length := by simpa using hi
    have h1 := h _ (nth_mem hi')
    have e1 : nth (gs.map symI) i = symI (nth gs i) := by simp [nth, hi']
    have e2 : nth ((gs.map symI).map fun s => (nth s 0).lo) i = (nth (symI (nth gs i)) 0).lo := by simp [nth, hi']
    rw [e1, e2]
    simp only [decide_eq_true_eq] at h1
    have hm := nth_mem (l := symI (nth gs i)) (i := 0) (by omega)
    have hs := (symI_syms (nth gs i)).2 _ hm
    exact ⟨_, hm, by omega, by omega⟩
  · rintro ⟨w, hw⟩ g hg
    obtain ⟨i, hi, rfl⟩ := List.getElem_of_mem hg
    have h1 := hw.2 i (by simpa using hi)
    have e1 : nth (gs.map symI) i = symI gs[i] := by simp [nth, hi]
    rw [e1] at h1
    have := List.length_pos_iff.2 (not_nil h1)
    simp only [decide_eq_true_eq]
    omega
theorem image_spec {t : Term} {gs : List (List Span)} (h4 : gs.length ≤ 4) (hn : numbersB t = true) (hp : prtB t gs.length = true) :
    ((imageV t gs).2 = true ↔ ∀ w, Win (gs.map symI) w → (valueT t w).isSome = true) ∧ ((imageV t gs).2 = false → (imageV t gs).1 = []) ∧
    ((imageV t gs).2 = true → Plain (imageV t gs).1 ∧ ∀ v, memL (imageV t gs).1 v ↔ ∃ w, Win (gs.map symI) w ∧ valueT t w = some v) := by
  have hS := setsOk_sym hp h4
  have hnum := hn
  simp only [numbersB, Bool.and_eq_true, decide_eq_true_eq] at hnum
  obtain ⟨⟨⟨hb, hs⟩, ho⟩, _, hl⟩ := hnum
  have hsm := small_bd hs
  have hbm := small_bd hb
  have hI : innerV t gs = if someB gs gs.length = false then ([], true) else (valsL t (gs.map symI), inSym (valsL t (gs.map symI))) := by
    rw [innerV, if_neg (by simp [hn]; omega), if_neg (by simp [hp])]
  have hsome := @win_some gs
  cases hB : someB gs gs.length
  · rw [hB] at hI hsome
    have hno : ∀ w, ¬ Win (gs.map symI) w := fun w hw => by have := hsome.2 ⟨w, hw⟩; cases this
    have e : imageV t gs = ([], true) := by rw [imageV, hI]; simp
    rw [e]
    refine ⟨⟨fun _ w hw => absurd hw (hno w), fun _ => rfl⟩, fun h => (by cases h), fun _ => ⟨⟨by simp, by simp⟩, fun v => ⟨fun h => absurd h (memL_nil v), fun ⟨w, hw, _⟩ => absurd hw (hno w)⟩⟩⟩
  · rw [hB] at hI hsome
    obtain ⟨w0, hw0⟩ := hsome.1 rfl
    obtain ⟨v1, v2⟩ := vals_spec hS hl hs ⟨w0, hw0⟩
    have hbd : ∀ w, Win (gs.map symI) w → 0 ≤ totW w t.parts ∧ totW w t.parts ≤ 264241152 := fun w hw => by
      obtain ⟨_, b1, b2⟩ := totW_bd (w := w) hS.parts (fun p hp => by
        have := right_at (hS.parts p hp)
        exact (hS.syms _ (nth_mem (by omega))).mem (hw.2 _ (by omega)))
      omega
    have hin := inSym_spec ((v2 _).2 ⟨w0, hw0, rfl⟩) (fun v hv => by
      obtain ⟨w, hw, rfl⟩ := (v2 v).1 hv
      have := hbd w hw
      omega)
    have hin2 : inSym (valsL t (gs.map symI)) = true ↔ ∀ w, Win (gs.map symI) w → (valueT t w).isSome = true := by
      rw [hin]
      constructor
      · intro h w hw
        rw [value_win hS hn hw, if_pos (h _ ((v2 _).2 ⟨w, hw, rfl⟩))]
        rfl
      · intro h v hv
        obtain ⟨w, hw, rfl⟩ := (v2 v).1 hv
        have := h w hw
        rw [value_win hS hn hw] at this
        split at this
        · assumption
        · cases this
    have hne : (valsL t (gs.map symI)).length ≠ 0 := fun h => not_nil ((v2 _).2 ⟨w0, hw0, rfl⟩) (List.eq_nil_of_length_eq_zero h)
    cases hi : inSym (valsL t (gs.map symI))
    · have e : imageV t gs = ([], false) := by rw [imageV, hI]; simp [hi]
      rw [e]
      rw [hi] at hin2
      exact ⟨hin2, fun _ => rfl, fun h => by cases h⟩
    · have e : imageV t gs = (moveL (imgL t.outer (valsL t (gs.map symI))) t.base, true) := by
        rw [imageV, hI]
        simp [hi, hne]
      rw [e]
      rw [hi] at hin2
      refine ⟨hin2, fun h => (by cases h), fun _ => ⟨?_, fun v => ?_⟩⟩
      · unfold moveL
        split
        · exact ⟨by simp, by simp⟩
        · exact (normI_plain _).1
      · obtain ⟨_, i2⟩ := img_spec (valsL t (gs.map symI)) ho
        rw [move_mem (by omega), i2]
        constructor
        · rintro ⟨⟨⟨x, h1, h2, h3⟩, _⟩, _⟩
          obtain ⟨w, hw, rfl⟩ := (v2 x).1 h1
          have hv := hin.1 hi _ h1
          exact ⟨w, hw, by rw [value_win hS hn hw, if_pos hv, h3]; congr 1; omega⟩
        · rintro ⟨w, hw, h⟩
          have hm := (v2 _).2 ⟨w, hw, rfl⟩
          have hv := hin.1 hi _ hm
          rw [value_win hS hn hw, if_pos hv] at h
          have hvs := valP_small ho (x := t.sum + totW w t.parts) (by omega)
          simp only [Option.some.injEq] at h
          exact ⟨⟨⟨_, hm, by omega, by omega⟩, by omega⟩, by omega⟩
end Go.Proofs.Yticodgjinajkpaa
set_option linter.unusedSimpArgs false
set_option linter.unusedVariables false
namespace Go.Proofs.Yticodgjinajkpaa
open Abs
def inDom (s x : Int) : Bool := decide ((s = 1 ∧ 0 ≤ x ∧ x < 256) ∨ (s = 2 ∧ 0 ≤ x ∧ x < 1114112 ∧ (x < 55296 ∨ 57344 ≤ x)))
end Go.Proofs.Yticodgjinajkpaa
set_option linter.unusedSimpArgs false
set_option linter.unusedVariables false
namespace Go.Proofs.Yticodgjinajkpaa
open Abs
def fitW (t : Term) (o : Int) (w : List Int) : Bool := match valueT t w with
  | some v => decide (0 ≤ v ∧ v ≤ 1114111) && inDom o v
  | none => false
end Go.Proofs.Yticodgjinajkpaa
set_option linter.unusedSimpArgs false
set_option linter.unusedVariables false
namespace Go.Proofs.Yticodgjinajkpaa
open Abs
theorem win_cons {g : List Span} {gs : List (List Span)} {w : List Int} : Win (g :: gs) w ↔ ∃ x r, w = x :: r ∧ memL g x ∧ Win gs r := by
  constructor
  · rintro ⟨h1, h2⟩
    cases w with
    | nil => simp at h1
    | cons x r =>
      refine ⟨x, r, rfl, ?_, by simpa using h1, fun i hi => ?_⟩
      · exact h2 0 (by simp)
      · exact h2 (i + 1) (by simp; omega)
  · rintro ⟨x, r, rfl, h1, h2⟩
    refine ⟨by simp [h2.1], fun i hi => ?_⟩
    cases i with
    | zero => exact h1
    | succ i => exact h2.2 i (by simp at hi; omega)
theorem win_nil {w : List Int} : Win [] w ↔ w = [] := by
  constructor
  · rintro ⟨h, _⟩; exact List.eq_nil_of_length_eq_zero h
  · rintro rfl; exact ⟨rfl, fun i hi => by simp at hi⟩
theorem dom_mem {o v : Int} : memL (domL o) v ↔ inDom o v = true := by
  unfold domL
  simp only [inDom, decide_eq_true_eq]
  split
  · rw [memL_cons]; simp only [memL_nil, or_false]; omega
  · split
    · rw [memL_cons, memL_cons]; simp only [memL_nil, or_false]; omega
    · simp only [memL_nil, false_iff]; omega
theorem inDom_bd {o v : Int} (h : inDom o v = true) : 0 ≤ v ∧ v ≤ 1114111 := by
  simp only [inDom, decide_eq_true_eq] at h; omega
theorem minus_nil {l d : List Span} (hl : ∀ v, memL l v → -1073741824 ≤ v ∧ v ≤ 1073741824) (hp : Full l) : minusL l d = [] ↔ ∀ v, memL l v → memL d v := by
  obtain ⟨m1, m2⟩ := minus_spec l d
  constructor
  · intro h v hv
    rw [h] at m2
    exact Classical.byContradiction fun hn => memL_nil v ((m2 v).2 ⟨hv, hl v hv, hn⟩)
  · intro h
    cases hm : minusL l d with
    | nil => rfl
    | cons s r =>
      rw [hm] at m1 m2
      obtain ⟨a, _, c⟩ := (m2 s.lo).1 (memL_cons.2 (.inl ⟨Int.le_refl _, m1.1 s (by simp)⟩))
      exact absurd (h _ a) c
theorem right_parts {t : Term} {i o n : Int} (h : rightT t i o n = true) : numbersB t = true ∧ prtB t n = true := by
  simp only [rightT, rightsB, Bool.and_eq_true] at h
  obtain ⟨⟨⟨⟨_, hn⟩, hr⟩, _⟩, _⟩ := h
  refine ⟨hn, ?_⟩
  rw [prtB, List.all_eq_true]
  intro p hp
  have := List.all_eq_true.1 hr p hp
  simp only [Bool.and_eq_true] at this
  exact this.1
theorem image_bd {t : Term} {gs : List (List Span)} (h4 : gs.length ≤ 4) (hn : numbersB t = true) (hp : prtB t gs.length = true) {w : List Int} {v : Int} (hw : Win (gs.map symI) w) (hv : valueT t w = some v) : -1073741824 ≤ v ∧ v ≤ 1073741824 := by
  have hnum := hn
  simp only [numbersB, Bool.and_eq_true, decide_eq_true_eq] at hnum
  have hbm := small_bd hnum.1.1.1
  rw [value_win (setsOk_sym hp h4) hn hw] at hv
  split at hv
  · have := valP_small hnum.1.2 (x := t.sum + totW w t.parts) (by omega)
    simp only [Option.some.injEq] at hv
    omega
  · cases hv
theorem fits_spec {t : Term} {i o : Int} {gs : List (List Span)} (h4 : gs.length ≤ 4) : fitsT t i o gs = true ↔ rightT t i o gs.length = true ∧ ∀ w, Win (gs.map symI) w → fitW t o w = true := by
  rw [fitsT, Bool.and_eq_true, Bool.and_eq_true, decide_eq_true_eq]
  refine and_congr_right fun hr => ?_
  obtain ⟨hn, hp⟩ := right_parts hr
  obtain ⟨s1, s2, s3⟩ := image_spec h4 hn hp
  constructor
  · rintro ⟨hi, hm⟩ w hw
    obtain ⟨p1, p2⟩ := s3 hi
    rw [minus_nil (fun v hv => by obtain ⟨w, h1, h2⟩ := (p2 v).1 hv; exact image_bd h4 hn hp h1 h2) p1.1] at hm
    have hv := some_get (s1.1 hi w hw)
    have := dom_mem.1 (hm _ ((p2 _).2 ⟨w, hw, hv⟩))
    have hb := inDom_bd this
    rw [fitW, hv]
    simp [hb, this]
  · intro h
    have hi : (imageV t gs).2 = true := s1.2 fun w hw => by
      have := h w hw
      rw [fitW] at this
      cases hv : valueT t w with
      | none => rw [hv] at this; cases this
      | some v => rfl
    obtain ⟨p1, p2⟩ := s3 hi
    refine ⟨hi, (minus_nil (fun v hv => by obtain ⟨w, h1, h2⟩ := (p2 v).1 hv; exact image_bd h4 hn hp h1 h2) p1.1).2 fun v hv => ?_⟩
    obtain ⟨w, h1, h2⟩ := (p2 v).1 hv
    have := h w h1
    rw [fitW, h2] at this
    simp only [Bool.and_eq_true] at this
    exact dom_mem.2 this.2
end Go.Proofs.Yticodgjinajkpaa
set_option linter.unusedSimpArgs false
set_option linter.unusedVariables false
namespace Go.Proofs.Yticodgjinajkpaa
open Abs
def shR (n : Int) (r : Rule) : Rule := ⟨r.from_ + n, r.to_ + n, r.guards, r.eat, r.out⟩
def shF (n : Int) (f : Final) : Final := ⟨f.from_ + n, f.guards, f.out⟩
def joinR (a b : Desc) : List Rule := [⟨0, 1 + a.start, [], 0, []⟩, ⟨0, 1 + a.states + b.start, [], 0, []⟩]
def joinV (a b : Desc) : Desc := ⟨a.in_, a.out, 1 + a.states + b.states, 0, joinR a b ++ a.rules.map (shR 1) ++ b.rules.map (shR (1 + a.states)), a.finals.map (shF 1) ++ b.finals.map (shF (1 + a.states))⟩
theorem wf_checked {d : Desc} (h : checkV d = 0) : headB d = true ∧ (∀ r ∈ d.rules, ruleB d r = true) ∧ ∀ f ∈ d.finals, finalB d f = true := by
  have h0 : (whereV d).1 = 0 := by
    unfold checkV at h
    split at h
    · assumption
    · omega
  unfold whereV at h0
  split at h0
  · simp at h0
  · rename_i hh
    refine ⟨by simpa using hh, ?_⟩
    split at h0
    · simp at h0
    · rename_i hr
      split at h0
      · simp at h0
      · rename_i hf
        exact ⟨badAt_none hr, badAt_none hf⟩
theorem writes_short {d : Desc} {out : List Term} {gs : List (List Span)} (h : writesB d out gs = true) : out.length ≤ 64 ∧ ∀ t ∈ out, t.parts.length ≤ 4 := by
  simp only [writesB, Bool.and_eq_true, decide_eq_true_eq] at h
  refine ⟨by omega, fun t ht => ?_⟩
  have := List.all_eq_true.1 h.2 t ht
  simp only [fitsT, Bool.and_eq_true] at this
  have h2 := (right_parts this.1).1
  simp only [numbersB, Bool.and_eq_true, decide_eq_true_eq] at h2
  exact h2.2.2
theorem grow_list {α β : Type} [Inhabited α] (base : List β) (l : List α) (f : α → β) : ∃ g : Nat → List β, g 0 = base ∧ (∀ k, k < l.length → g (k + 1) = g k ++ [f (nth l k)]) ∧ g l.length = base ++ l.map f ∧ ∀ k, (g k).length ≤ base.length + k :=
  ⟨fun k => base ++ (l.take k).map f, by simp, fun k hk => by simp only; rw [take_at hk]; simp, by simp only; rw [List.take_length], fun k => by simp; omega⟩
theorem rule_data {d : Desc} {r : Rule} (h : ruleB d r = true) : (0 ≤ r.from_ ∧ r.from_ < d.states) ∧ (0 ≤ r.to_ ∧ r.to_ < d.states) ∧ PC Try.prog 48 [guardsV r.guards] (guardsV r.guards) ∧ PC Try.prog 49 [termsV r.out] (termsV r.out) := by
  have h0 := rule_bd h
  simp only [ruleB, Bool.and_eq_true] at h
  obtain ⟨g1, g2⟩ := guards_short h.2.2.1
  obtain ⟨w1, w2⟩ := writes_short h.2.2.2.2
  exact ⟨h0.1, h0.2, desc_copied _ (by omega) fun g hg => by have := g2 g hg; omega, desc_terms _ (by omega) fun t ht => by have := w2 t ht; omega⟩
theorem final_data {d : Desc} {f : Final} (h : finalB d f = true) : (0 ≤ f.from_ ∧ f.from_ < d.states) ∧ PC Try.prog 48 [guardsV f.guards] (guardsV f.guards) ∧ PC Try.prog 49 [termsV f.out] (termsV f.out) := by
  simp only [finalB, stateB, Bool.and_eq_true, decide_eq_true_eq] at h
  obtain ⟨g1, g2⟩ := guards_short h.2.1
  obtain ⟨w1, w2⟩ := writes_short h.2.2
  exact ⟨h.1, desc_copied _ (by omega) fun g hg => by have := g2 g hg; omega, desc_terms _ (by omega) fun t ht => by have := w2 t ht; omega⟩
theorem desc_Join (a b : Desc) (ha : DescFin a) (hb : DescFin b) (ca : checkV a = 0) (cb : checkV b = 0) (hin : a.in_ = b.in_) (hout : a.out = b.out) (h1 : 1 + a.states + b.states ≤ 1024) (h2 : 2 + a.rules.length + b.rules.length ≤ 4096) (h3 : a.finals.length + b.finals.length ≤ 4096) :
    PC Try.prog 28 [descV a, descV b] (.tup [descV (joinV a b), .int .i64 0]) := by
  have hCa := desc_Check a ha
  have hCb := desc_Check b hb
  rw [ca] at hCa
  rw [cb] at hCb
  obtain ⟨a1, a2, a3⟩ := wf_checked ca
  obtain ⟨b1, b2, b3⟩ := wf_checked cb
  have a4 := head_bd a1
  have b4 := head_bd b1
  have pa1 := pure_rules a.rules
  have pa2 := pure_finals a.finals
  have pb1 := pure_rules b.rules
  have pb2 := pure_finals b.finals
  refine pc_w' c_desc_Join ?_
  unfold B_desc_Join
  (repeat' (first | (simp (disch := omega) only [push_cast, ↓zz, seval, pa1, pa2, pb1, pb2, hin, hout]) | (with_reducible refine And.intro ?_ ?_) | (with_reducible refine condW_split ?_ ?_ <;> intro hc <;> (try simp only [push_cast] at hc)) | (with_reducible refine guardW_split ?_ ?_ <;> intro hc <;> (try simp only [push_cast] at hc)) | ((with_reducible first | refine eK hCa ?_ | refine eQ hCa ?_ | refine eG hCa ?_)) | ((with_reducible first | refine eK hCb ?_ | refine eQ hCb ?_ | refine eG hCb ?_)) | ((with_reducible first | refine cK hCa ?_ | refine cQ hCa ?_ | refine cG hCa ?_); (simp (disch := omega) only [push_cast, ↓zz, seval, pa1, pa2, pb1, pb2, hin, hout]); (fail_if_success (with_reducible change False))) | ((with_reducible first | refine cK hCb ?_ | refine cQ hCb ?_ | refine cG hCb ?_); (simp (disch := omega) only [push_cast, ↓zz, seval, pa1, pa2, pb1, pb2, hin, hout]); (fail_if_success (with_reducible change False))) | omega | (with_reducible intro _)))
  refine LoopK_rounds 3 ?_
  (repeat' (first | (simp (disch := omega) only [push_cast, ↓zz, seval, pa1, pa2, pb1, pb2, hin, hout, Int.zero_mul, Int.one_mul, Int.add_zero]) | (with_reducible refine And.intro ?_ ?_) | (with_reducible refine condW_split ?_ ?_ <;> intro hc <;> (try simp only [push_cast] at hc)) | (with_reducible refine guardW_split ?_ ?_ <;> intro hc <;> (try simp only [push_cast] at hc)) | omega | (with_reducible intro _)))
  obtain ⟨g, g0, gs, ge0, gl⟩ := grow_list (joinR a b) a.rules (shR 1)
  refine LoopK_T (T_loopR (fun (k : Nat) => k ≤ a.rules.length) (fun k => a.rules.length - k) (fun k => [(2, .ptr 0 1 0 0), (4, .ptr 1 1 0 0), (7, .ptr 2 1 0 0), (9, .ptr 3 1 0 0), (10, .int .i64 1), (89, .agg [.int .i64 a.in_, .int .i64 a.out, .int .i64 a.states, .int .i64 a.start, rulesV a.rules, finalsV a.finals, .int .i64 b.in_, .int .i64 b.out, .int .i64 b.states, .int .i64 b.start, rulesV b.rules, finalsV b.finals]), (90, .int .i64 0), (100, rulesV a.rules), (101, .int .i64 a.rules.length), (102, .int .i64 k)]) (fun k => [⟨6, 1, true, [descV a]⟩, ⟨6, 1, true, [.agg [.int .i64 0, .int .i64 0, .int .i64 0, .int .i64 0, .nilS, .nilS]]⟩, ⟨6, 1, true, [.agg [.int .i64 a.in_, .int .i64 a.out, .int .i64 (1 + a.states + b.states), .int .i64 0, .ref 4 1 0 (g k).length, .ref 5 1 0 (([] : List Final)).length]]⟩, ⟨6, 1, true, [descV a]⟩, ⟨5, 1, false, (g k).map ruleV⟩, ⟨3, 1, false, (([] : List Final)).map finalV⟩]) (fun env H => [srcOf 6 (env 2), srcOf 6 (env 4), srcOf 6 (env 7), srcOf 6 (env 9), srcOf 5 (cellAt H (env 7) 4), srcOf 3 (cellAt H (env 7) 5)]) 0 (by simp) ?_ ?_)
  · (repeat' (first | (simp (disch := omega) only [push_cast, ↓zz, seval, pa1, pa2, pb1, pb2, hin, hout, Int.zero_mul, Int.one_mul, Int.add_zero, g0, joinR]) | (with_reducible refine And.intro ?_ ?_) | (with_reducible refine condW_split ?_ ?_ <;> intro hc <;> (try simp only [push_cast] at hc)) | (with_reducible refine guardW_split ?_ ?_ <;> intro hc <;> (try simp only [push_cast] at hc)) | omega | (with_reducible intro _)))
  intro k hk
  have gk := gl k
  have hbl : (joinR a b).length ≤ 2 := by simp [joinR]
  rcases Nat.lt_or_ge k a.rules.length with hkl | hkl
  · obtain ⟨d1, d2, d3, d4⟩ := rule_data (a2 _ (nth_mem hkl))
    have e1 := gs k hkl
    generalize hre : nth a.rules k = r at *
    have hP := pure_guards r.guards
    have hT := pure_terms r.out
    have hpl := pure_rules (g k)
    refine W_T ?_
    (repeat' (first | (simp (disch := omega) only [push_cast, ↓zz, seval, pa1, pa2, pb1, pb2, hin, hout, Int.zero_mul, Int.one_mul, Int.add_zero, hre, hP, hT, hpl]) | (with_reducible refine And.intro ?_ ?_) | (with_reducible refine condW_split ?_ ?_ <;> intro hc <;> (try simp only [push_cast] at hc)) | (with_reducible refine guardW_split ?_ ?_ <;> intro hc <;> (try simp only [push_cast] at hc)) | ((with_reducible first | refine eK d3 ?_ | refine eQ d3 ?_ | refine eG d3 ?_)) | ((with_reducible first | refine eK d4 ?_ | refine eQ d4 ?_ | refine eG d4 ?_)) | ((with_reducible first | refine cK d3 ?_ | refine cQ d3 ?_ | refine cG d3 ?_); (simp (disch := omega) only [push_cast, ↓zz, seval, pa1, pa2, pb1, pb2, hin, hout, Int.zero_mul, Int.one_mul, Int.add_zero, hre, hP, hT, hpl]); (fail_if_success (with_reducible change False))) | ((with_reducible first | refine cK d4 ?_ | refine cQ d4 ?_ | refine cG d4 ?_); (simp (disch := omega) only [push_cast, ↓zz, seval, pa1, pa2, pb1, pb2, hin, hout, Int.zero_mul, Int.one_mul, Int.add_zero, hre, hP, hT, hpl]); (fail_if_success (with_reducible change False))) | omega | (with_reducible intro _)))
    all_goals
      refine ⟨k + 1, ?_⟩
      (repeat' (first | (simp (disch := omega) only [push_cast, ↓zz, seval, e1, shR, pa1, pa2, pb1, pb2, hin, hout, Int.zero_mul, Int.one_mul, Int.add_zero]) | (with_reducible refine And.intro ?_ ?_) | (with_reducible refine condW_split ?_ ?_ <;> intro hc <;> (try simp only [push_cast] at hc)) | (with_reducible refine guardW_split ?_ ?_ <;> intro hc <;> (try simp only [push_cast] at hc)) | omega | (with_reducible intro _)))
  have hke : k = a.rules.length := by omega
  subst hke
  have hpl0 := pure_rules (g a.rules.length)
  have hll0 : (g a.rules.length).length ≤ 5000 := by omega
  clear hk hkl gk gl gs g0 hbl
  generalize g a.rules.length = L0 at *
  refine W_T ?_
  (repeat' (first | (simp (disch := omega) only [push_cast, ↓zz, seval, pa1, pa2, pb1, pb2, hin, hout, Int.zero_mul, Int.one_mul, Int.add_zero, hpl0]) | (with_reducible refine And.intro ?_ ?_) | (with_reducible refine condW_split ?_ ?_ <;> intro hc <;> (try simp only [push_cast] at hc)) | (with_reducible refine guardW_split ?_ ?_ <;> intro hc <;> (try simp only [push_cast] at hc)) | omega | (with_reducible intro _)))
  obtain ⟨g, g0, gs, gf0, gl⟩ := grow_list (([] : List Final)) a.finals (shF 1)
  refine LoopK_T (T_loopR (fun (k : Nat) => k ≤ a.finals.length) (fun k => a.finals.length - k) (fun k => [(2, .ptr 0 1 0 0), (4, .ptr 1 1 0 0), (7, .ptr 2 1 0 0), (9, .ptr 3 1 0 0), (10, .int .i64 1), (89, .agg [.int .i64 a.in_, .int .i64 a.out, .int .i64 a.states, .int .i64 a.start, rulesV a.rules, finalsV a.finals, .int .i64 b.in_, .int .i64 b.out, .int .i64 b.states, .int .i64 b.start, rulesV b.rules, finalsV b.finals]), (90, .int .i64 0), (130, finalsV a.finals), (131, .int .i64 a.finals.length), (132, .int .i64 k)]) (fun k => [⟨6, 1, true, [descV a]⟩, ⟨6, 1, true, [.agg [.int .i64 0, .int .i64 0, .int .i64 0, .int .i64 0, .nilS, .nilS]]⟩, ⟨6, 1, true, [.agg [.int .i64 a.in_, .int .i64 a.out, .int .i64 (1 + a.states + b.states), .int .i64 0, .ref 4 1 0 (L0).length, .ref 5 1 0 (g k).length]]⟩, ⟨6, 1, true, [descV a]⟩, ⟨5, 1, false, (L0).map ruleV⟩, ⟨3, 1, false, (g k).map finalV⟩]) (fun env H => [srcOf 6 (env 2), srcOf 6 (env 4), srcOf 6 (env 7), srcOf 6 (env 9), srcOf 5 (cellAt H (env 7) 4), srcOf 3 (cellAt H (env 7) 5)]) 0 (by simp) ?_ ?_)
  · (repeat' (first | (simp (disch := omega) only [push_cast, ↓zz, seval, pa1, pa2, pb1, pb2, hin, hout, Int.zero_mul, Int.one_mul, Int.add_zero, hpl0, g0]) | (with_reducible refine And.intro ?_ ?_) | (with_reducible refine condW_split ?_ ?_ <;> intro hc <;> (try simp only [push_cast] at hc)) | (with_reducible refine guardW_split ?_ ?_ <;> intro hc <;> (try simp only [push_cast] at hc)) | omega | (with_reducible intro _)))
  intro k hk
  have gk := gl k
  have hbl : (([] : List Final)).length ≤ 5000 := by simp
  rcases Nat.lt_or_ge k a.finals.length with hkl | hkl
  · obtain ⟨d1, d3, d4⟩ := final_data (a3 _ (nth_mem hkl))
    have e1 := gs k hkl
    generalize hfe : nth a.finals k = f at *
    have hP := pure_guards f.guards
    have hT := pure_terms f.out
    have hpf := pure_finals (g k)
    refine W_T ?_
    (repeat' (first | (simp (disch := omega) only [push_cast, ↓zz, seval, pa1, pa2, pb1, pb2, hin, hout, Int.zero_mul, Int.one_mul, Int.add_zero, hfe, hP, hT, hpl0, hpf]) | (with_reducible refine And.intro ?_ ?_) | (with_reducible refine condW_split ?_ ?_ <;> intro hc <;> (try simp only [push_cast] at hc)) | (with_reducible refine guardW_split ?_ ?_ <;> intro hc <;> (try simp only [push_cast] at hc)) | ((with_reducible first | refine eK d3 ?_ | refine eQ d3 ?_ | refine eG d3 ?_)) | ((with_reducible first | refine eK d4 ?_ | refine eQ d4 ?_ | refine eG d4 ?_)) | ((with_reducible first | refine cK d3 ?_ | refine cQ d3 ?_ | refine cG d3 ?_); (simp (disch := omega) only [push_cast, ↓zz, seval, pa1, pa2, pb1, pb2, hin, hout, Int.zero_mul, Int.one_mul, Int.add_zero, hfe, hP, hT, hpl0, hpf]); (fail_if_success (with_reducible change False))) | ((with_reducible first | refine cK d4 ?_ | refine cQ d4 ?_ | refine cG d4 ?_); (simp (disch := omega) only [push_cast, ↓zz, seval, pa1, pa2, pb1, pb2, hin, hout, Int.zero_mul, Int.one_mul, Int.add_zero, hfe, hP, hT, hpl0, hpf]); (fail_if_success (with_reducible change False))) | omega | (with_reducible intro _)))
    all_goals
      refine ⟨k + 1, ?_⟩
      (repeat' (first | (simp (disch := omega) only [push_cast, ↓zz, seval, e1, shF, pa1, pa2, pb1, pb2, hin, hout, Int.zero_mul, Int.one_mul, Int.add_zero]) | (with_reducible refine And.intro ?_ ?_) | (with_reducible refine condW_split ?_ ?_ <;> intro hc <;> (try simp only [push_cast] at hc)) | (with_reducible refine guardW_split ?_ ?_ <;> intro hc <;> (try simp only [push_cast] at hc)) | omega | (with_reducible intro _)))
  have hke : k = a.finals.length := by omega
  subst hke
  have hpf0 := pure_finals (g a.finals.length)
  have hlf0 : (g a.finals.length).length ≤ 5000 := by simp at gk; omega
  clear hk hkl gk gl gs g0 hbl
  generalize g a.finals.length = F0 at *
  refine W_T ?_
  (repeat' (first | (simp (disch := omega) only [push_cast, ↓zz, seval, pa1, pa2, pb1, pb2, hin, hout, Int.zero_mul, Int.one_mul, Int.add_zero, hpl0, hpf0]) | (with_reducible refine And.intro ?_ ?_) | (with_reducible refine condW_split ?_ ?_ <;> intro hc <;> (try simp only [push_cast] at hc)) | (with_reducible refine guardW_split ?_ ?_ <;> intro hc <;> (try simp only [push_cast] at hc)) | omega | (with_reducible intro _)))
  refine Rounds_next ?_
  (repeat' (first | (simp (disch := omega) only [push_cast, ↓zz, seval, pa1, pa2, pb1, pb2, hin, hout, Int.zero_mul, Int.one_mul, Int.add_zero, hpl0, hpf0]) | (with_reducible refine And.intro ?_ ?_) | (with_reducible refine condW_split ?_ ?_ <;> intro hc <;> (try simp only [push_cast] at hc)) | (with_reducible refine guardW_split ?_ ?_ <;> intro hc <;> (try simp only [push_cast] at hc)) | omega | (with_reducible intro _)))
  obtain ⟨g, g0, gs, ge1, gl⟩ := grow_list (L0) b.rules (shR (1 + a.states))
  refine LoopK_T (T_loopR (fun (k : Nat) => k ≤ b.rules.length) (fun k => b.rules.length - k) (fun k => [(2, .ptr 0 1 0 0), (4, .ptr 1 1 0 0), (7, .ptr 2 1 0 0), (9, .ptr 3 1 0 0), (10, .int .i64 (1 + a.states)), (89, .agg [.int .i64 a.in_, .int .i64 a.out, .int .i64 a.states, .int .i64 a.start, rulesV a.rules, finalsV a.finals, .int .i64 b.in_, .int .i64 b.out, .int .i64 b.states, .int .i64 b.start, rulesV b.rules, finalsV b.finals]), (90, .int .i64 1), (100, rulesV b.rules), (101, .int .i64 b.rules.length), (102, .int .i64 k)]) (fun k => [⟨6, 1, true, [descV a]⟩, ⟨6, 1, true, [.agg [.int .i64 0, .int .i64 0, .int .i64 0, .int .i64 0, .nilS, .nilS]]⟩, ⟨6, 1, true, [.agg [.int .i64 a.in_, .int .i64 a.out, .int .i64 (1 + a.states + b.states), .int .i64 0, .ref 4 1 0 (g k).length, .ref 5 1 0 (F0).length]]⟩, ⟨6, 1, true, [descV b]⟩, ⟨5, 1, false, (g k).map ruleV⟩, ⟨3, 1, false, (F0).map finalV⟩]) (fun env H => [srcOf 6 (env 2), srcOf 6 (env 4), srcOf 6 (env 7), srcOf 6 (env 9), srcOf 5 (cellAt H (env 7) 4), srcOf 3 (cellAt H (env 7) 5)]) 0 (by simp) ?_ ?_)
  · (repeat' (first | (simp (disch := omega) only [push_cast, ↓zz, seval, pa1, pa2, pb1, pb2, hin, hout, Int.zero_mul, Int.one_mul, Int.add_zero, hpl0, hpf0, g0, joinR]) | (with_reducible refine And.intro ?_ ?_) | (with_reducible refine condW_split ?_ ?_ <;> intro hc <;> (try simp only [push_cast] at hc)) | (with_reducible refine guardW_split ?_ ?_ <;> intro hc <;> (try simp only [push_cast] at hc)) | omega | (with_reducible intro _)))
  intro k hk
  have gk := gl k
  have hbl : (L0).length ≤ 5000 := by omega
  rcases Nat.lt_or_ge k b.rules.length with hkl | hkl
  · obtain ⟨d1, d2, d3, d4⟩ := rule_data (b2 _ (nth_mem hkl))
    have e1 := gs k hkl
    generalize hre : nth b.rules k = r at *
    have hP := pure_guards r.guards
    have hT := pure_terms r.out
    have hpl := pure_rules (g k)
    refine W_T ?_
    (repeat' (first | (simp (disch := omega) only [push_cast, ↓zz, seval, pa1, pa2, pb1, pb2, hin, hout, Int.zero_mul, Int.one_mul, Int.add_zero, hpl0, hpf0, hre, hP, hT, hpl]) | (with_reducible refine And.intro ?_ ?_) | (with_reducible refine condW_split ?_ ?_ <;> intro hc <;> (try simp only [push_cast] at hc)) | (with_reducible refine guardW_split ?_ ?_ <;> intro hc <;> (try simp only [push_cast] at hc)) | ((with_reducible first | refine eK d3 ?_ | refine eQ d3 ?_ | refine eG d3 ?_)) | ((with_reducible first | refine eK d4 ?_ | refine eQ d4 ?_ | refine eG d4 ?_)) | ((with_reducible first | refine cK d3 ?_ | refine cQ d3 ?_ | refine cG d3 ?_); (simp (disch := omega) only [push_cast, ↓zz, seval, pa1, pa2, pb1, pb2, hin, hout, Int.zero_mul, Int.one_mul, Int.add_zero, hpl0, hpf0, hre, hP, hT, hpl]); (fail_if_success (with_reducible change False))) | ((with_reducible first | refine cK d4 ?_ | refine cQ d4 ?_ | refine cG d4 ?_); (simp (disch := omega) only [push_cast, ↓zz, seval, pa1, pa2, pb1, pb2, hin, hout, Int.zero_mul, Int.one_mul, Int.add_zero, hpl0, hpf0, hre, hP, hT, hpl]); (fail_if_success (with_reducible change False))) | omega | (with_reducible intro _)))
    all_goals
      refine ⟨k + 1, ?_⟩
      (repeat' (first | (simp (disch := omega) only [push_cast, ↓zz, seval, e1, shR, pa1, pa2, pb1, pb2, hin, hout, Int.zero_mul, Int.one_mul, Int.add_zero, hpl0, hpf0]) | (with_reducible refine And.intro ?_ ?_) | (with_reducible refine condW_split ?_ ?_ <;> intro hc <;> (try simp only [push_cast] at hc)) | (with_reducible refine guardW_split ?_ ?_ <;> intro hc <;> (try simp only [push_cast] at hc)) | omega | (with_reducible intro _)))
  have hke : k = b.rules.length := by omega
  subst hke
  have hpl1 := pure_rules (g b.rules.length)
  have hll1 : (g b.rules.length).length ≤ 10000 := by omega
  clear hk hkl gk gl gs g0 hbl
  generalize g b.rules.length = L1 at *
  refine W_T ?_
  (repeat' (first | (simp (disch := omega) only [push_cast, ↓zz, seval, pa1, pa2, pb1, pb2, hin, hout, Int.zero_mul, Int.one_mul, Int.add_zero, hpl0, hpf0, hpl1]) | (with_reducible refine And.intro ?_ ?_) | (with_reducible refine condW_split ?_ ?_ <;> intro hc <;> (try simp only [push_cast] at hc)) | (with_reducible refine guardW_split ?_ ?_ <;> intro hc <;> (try simp only [push_cast] at hc)) | omega | (with_reducible intro _)))
  obtain ⟨g, g0, gs, gf1, gl⟩ := grow_list (F0) b.finals (shF (1 + a.states))
  refine LoopK_T (T_loopR (fun (k : Nat) => k ≤ b.finals.length) (fun k => b.finals.length - k) (fun k => [(2, .ptr 0 1 0 0), (4, .ptr 1 1 0 0), (7, .ptr 2 1 0 0), (9, .ptr 3 1 0 0), (10, .int .i64 (1 + a.states)), (89, .agg [.int .i64 a.in_, .int .i64 a.out, .int .i64 a.states, .int .i64 a.start, rulesV a.rules, finalsV a.finals, .int .i64 b.in_, .int .i64 b.out, .int .i64 b.states, .int .i64 b.start, rulesV b.rules, finalsV b.finals]), (90, .int .i64 1), (130, finalsV b.finals), (131, .int .i64 b.finals.length), (132, .int .i64 k)]) (fun k => [⟨6, 1, true, [descV a]⟩, ⟨6, 1, true, [.agg [.int .i64 0, .int .i64 0, .int .i64 0, .int .i64 0, .nilS, .nilS]]⟩, ⟨6, 1, true, [.agg [.int .i64 a.in_, .int .i64 a.out, .int .i64 (1 + a.states + b.states), .int .i64 0, .ref 4 1 0 (L1).length, .ref 5 1 0 (g k).length]]⟩, ⟨6, 1, true, [descV b]⟩, ⟨5, 1, false, (L1).map ruleV⟩, ⟨3, 1, false, (g k).map finalV⟩]) (fun env H => [srcOf 6 (env 2), srcOf 6 (env 4), srcOf 6 (env 7), srcOf 6 (env 9), srcOf 5 (cellAt H (env 7) 4), srcOf 3 (cellAt H (env 7) 5)]) 0 (by simp) ?_ ?_)
  · (repeat' (first | (simp (disch := omega) only [push_cast, ↓zz, seval, pa1, pa2, pb1, pb2, hin, hout, Int.zero_mul, Int.one_mul, Int.add_zero, hpl0, hpf0, hpl1, g0]) | (with_reducible refine And.intro ?_ ?_) | (with_reducible refine condW_split ?_ ?_ <;> intro hc <;> (try simp only [push_cast] at hc)) | (with_reducible refine guardW_split ?_ ?_ <;> intro hc <;> (try simp only [push_cast] at hc)) | omega | (with_reducible intro _)))
  intro k hk
  have gk := gl k
  have hbl : (F0).length ≤ 5000 := by omega
  rcases Nat.lt_or_ge k b.finals.length with hkl | hkl
  · obtain ⟨d1, d3, d4⟩ := final_data (b3 _ (nth_mem hkl))
    have e1 := gs k hkl
    generalize hfe : nth b.finals k = f at *
    have hP := pure_guards f.guards
    have hT := pure_terms f.out
    have hpf := pure_finals (g k)
    refine W_T ?_
    (repeat' (first | (simp (disch := omega) only [push_cast, ↓zz, seval, pa1, pa2, pb1, pb2, hin, hout, Int.zero_mul, Int.one_mul, Int.add_zero, hpl0, hpf0, hfe, hP, hT, hpl1, hpf]) | (with_reducible refine And.intro ?_ ?_) | (with_reducible refine condW_split ?_ ?_ <;> intro hc <;> (try simp only [push_cast] at hc)) | (with_reducible refine guardW_split ?_ ?_ <;> intro hc <;> (try simp only [push_cast] at hc)) | ((with_reducible first | refine eK d3 ?_ | refine eQ d3 ?_ | refine eG d3 ?_)) | ((with_reducible first | refine eK d4 ?_ | refine eQ d4 ?_ | refine eG d4 ?_)) | ((with_reducible first | refine cK d3 ?_ | refine cQ d3 ?_ | refine cG d3 ?_); (simp (disch := omega) only [push_cast, ↓zz, seval, pa1, pa2, pb1, pb2, hin, hout, Int.zero_mul, Int.one_mul, Int.add_zero, hpl0, hpf0, hfe, hP, hT, hpl1, hpf]); (fail_if_success (with_reducible change False))) | ((with_reducible first | refine cK d4 ?_ | refine cQ d4 ?_ | refine cG d4 ?_); (simp (disch := omega) only [push_cast, ↓zz, seval, pa1, pa2, pb1, pb2, hin, hout, Int.zero_mul, Int.one_mul, Int.add_zero, hpl0, hpf0, hfe, hP, hT, hpl1, hpf]); (fail_if_success (with_reducible change False))) | omega | (with_reducible intro _)))
    all_goals
      refine ⟨k + 1, ?_⟩
      (repeat' (first | (simp (disch := omega) only [push_cast, ↓zz, seval, e1, shF, pa1, pa2, pb1, pb2, hin, hout, Int.zero_mul, Int.one_mul, Int.add_zero, hpl0, hpf0]) | (with_reducible refine And.intro ?_ ?_) | (with_reducible refine condW_split ?_ ?_ <;> intro hc <;> (try simp only [push_cast] at hc)) | (with_reducible refine guardW_split ?_ ?_ <;> intro hc <;> (try simp only [push_cast] at hc)) | omega | (with_reducible intro _)))
  have hke : k = b.finals.length := by omega
  subst hke
  have hpf1 := pure_finals (g b.finals.length)
  have hlf1 : (g b.finals.length).length ≤ 10000 := by omega
  clear hk hkl gk gl gs g0 hbl
  generalize g b.finals.length = F1 at *
  refine W_T ?_
  (repeat' (first | (simp (disch := omega) only [push_cast, ↓zz, seval, pa1, pa2, pb1, pb2, hin, hout, Int.zero_mul, Int.one_mul, Int.add_zero, hpl0, hpf0, hpl1, hpf1]) | (with_reducible refine And.intro ?_ ?_) | (with_reducible refine condW_split ?_ ?_ <;> intro hc <;> (try simp only [push_cast] at hc)) | (with_reducible refine guardW_split ?_ ?_ <;> intro hc <;> (try simp only [push_cast] at hc)) | omega | (with_reducible intro _)))
  refine Rounds_next ?_
  (repeat' (first | (simp (disch := omega) only [push_cast, ↓zz, seval, pa1, pa2, pb1, pb2, hin, hout, Int.zero_mul, Int.one_mul, Int.add_zero, hpl0, hpf0, hpl1, hpf1]) | (with_reducible refine And.intro ?_ ?_) | (with_reducible refine condW_split ?_ ?_ <;> intro hc <;> (try simp only [push_cast] at hc)) | (with_reducible refine guardW_split ?_ ?_ <;> intro hc <;> (try simp only [push_cast] at hc)) | omega | (with_reducible intro _)))
  have e : descV (joinV a b) = .agg [.int .i64 a.in_, .int .i64 a.out, .int .i64 (1 + a.states + b.states), .int .i64 0, rulesV L1, finalsV F1] := by
    rw [ge1, gf1, ge0, gf0]; rfl
  rw [e, hin, hout]
  (repeat' (first | (simp (disch := omega) only [push_cast, ↓zz, seval, an_tup]) | omega | (with_reducible refine And.intro ?_ ?_)))
  all_goals trace_state
end Go.Proofs.Yticodgjinajkpaa
set_option linter.unusedSimpArgs false
set_option linter.unusedVariables false
namespace Go.Proofs.Yticodgjinajkpaa
open Abs
theorem badAt_ok {α : Type} {p : α → Bool} : ∀ {l : List α} {i : Nat}, (∀ x ∈ l, p x = true) → badAt p l i = none
  | [], _, _ => rfl
  | x :: l, i, h => by rw [badAt, if_pos (h x (by simp)), badAt_ok fun y hy => h y (by simp [hy])]
theorem check_intro {d : Desc} (h1 : headB d = true) (h2 : ∀ r ∈ d.rules, ruleB d r = true) (h3 : ∀ f ∈ d.finals, finalB d f = true) (h4 : ¬ cycP d.rules d.states.toNat) : whereV d = (0, 0) ∧ checkV d = 0 := by
  have e : whereV d = (0, 0) := by
    rw [whereV, if_neg (by simp [h1]), badAt_ok h2]
    simp only
    rw [badAt_ok h3]
    simp only
    rw [if_neg h4]
  exact ⟨e, by rw [checkV, e]; rfl⟩
theorem dom_full (s : Int) : Full (domL s) ∧ ∀ v, memL (domL s) v → 0 ≤ v ∧ v ≤ 1114111 := by
  refine ⟨fun t ht => ?_, fun v hv => inDom_bd (dom_mem.1 hv)⟩
  unfold domL at ht
  split at ht
  · simp at ht; subst ht; simp
  · split at ht
    · simp at ht; rcases ht with rfl | rfl <;> simp
    · cases ht
theorem guards_dom {s : Int} (hs : s = 1 ∨ s = 2) : guardsB s [domL s] = true := by
  have hm : minusL (domL s) (domL s) = [] := (minus_nil (fun v hv => by have := (dom_full s).2 v hv; omega) (dom_full s).1).2 fun v hv => hv
  have hc : checkB (domL s) = true := by rcases hs with rfl | rfl <;> decide
  simp only [guardsB, guardB, List.all_cons, List.all_nil, hm, hc]
  rcases hs with rfl | rfl <;> rfl
theorem value_copy {x : Int} (hx : 0 ≤ x ∧ x ≤ 1114111) : valueT copyT [x] = some x := by
  have hr : rightB ⟨0, 0, 21, 0⟩ 1 = true := by decide
  have hv : valP ⟨0, 0, 21, 0⟩ x = x := (whole_val (p := ⟨0, 0, 21, 0⟩) (by decide) (by omega)).2.2
  have := value_one (t := copyT) (p := ⟨0, 0, 21, 0⟩) (x := x) rfl hr (by decide) (by decide) (by decide) hx
  have ho : copyT.outer = ⟨0, 0, 21, 0⟩ := rfl
  have hs : copyT.sum = 0 := rfl
  have hb : copyT.base = 0 := rfl
  rw [this, ho, hs, hb, hv, Int.zero_add, hv, if_pos hx, Int.zero_add]
theorem fits_copy {s : Int} (hs : s = 1 ∨ s = 2) : fitsT copyT s s [domL s] = true := by
  refine (fits_spec (by simp)).2 ⟨by rcases hs with rfl | rfl <;> decide, fun w hw => ?_⟩
  obtain ⟨x, r, rfl, h1, h2⟩ := win_cons.1 hw
  obtain rfl := win_nil.1 h2
  have hm := ((symI_spec (domL s)).2 x).1 h1
  rw [fitW, value_copy hm.1]
  simp only [Bool.and_eq_true, decide_eq_true_eq]
  exact ⟨hm.1, dom_mem.1 hm.2⟩
theorem writes_copy {d : Desc} {s : Int} (hs : s = 1 ∨ s = 2) (h1 : d.in_ = s) (h2 : d.out = s) : writesB d [copyT] [domL s] = true := by
  simp [writesB, h1, h2, fits_copy hs]
def emptyD (a b : Int) : Desc := ⟨a, b, 1, 0, [], []⟩
theorem check_same {s : Int} (hs : s = 1 ∨ s = 2) : whereV (sameV s) = (0, 0) ∧ checkV (sameV s) = 0 := by
  refine check_intro (by rcases hs with rfl | rfl <;> decide) (fun r hr => ?_) (fun f hf => ?_) ?_
  · simp only [sameV, List.mem_singleton] at hr
    subst hr
    simp only [ruleB, Bool.and_eq_true]
    exact ⟨rfl, rfl, guards_dom hs, rfl, writes_copy hs rfl rfl⟩
  · simp only [sameV, List.mem_singleton] at hf
    subst hf
    simp [finalB, stateB, guardsB, writesB, sameV]
  · rintro ⟨C, hC, j, hj⟩
    obtain ⟨_, r, hr, he, _⟩ := hC j hj
    simp only [sameV, List.mem_singleton] at hr
    subst hr
    simp [isEps] at he
theorem check_empty {a b : Int} (ha : a = 1 ∨ a = 2) (hb : b = 1 ∨ b = 2) : whereV (emptyD a b) = (0, 0) ∧ checkV (emptyD a b) = 0 := by
  refine check_intro (by rcases ha with rfl | rfl <;> rcases hb with rfl | rfl <;> decide) (fun r hr => by cases hr) (fun f hf => by cases hf) ?_
  rintro ⟨C, hC, j, hj⟩
  obtain ⟨_, r, hr, _⟩ := hC j hj
  cases hr
abbrev exJ : Desc := joinV (sameV 1) (emptyD 1 1)
theorem exJ_rules : exJ.rules = [⟨0, 1, [], 0, []⟩, ⟨0, 2, [], 0, []⟩, ⟨1, 1, [domL 1], 1, [copyT]⟩] := by rfl
theorem exJ_finals : exJ.finals = [⟨1, [], []⟩] := rfl
theorem check_exJ : checkV exJ = 0 := by
  refine (check_intro (by decide) (fun r hr => ?_) (fun f hf => ?_) ?_).2
  · rw [exJ_rules] at hr
    simp only [List.mem_cons, List.not_mem_nil, or_false] at hr
    rcases hr with rfl | rfl | rfl
    · rfl
    · rfl
    · simp only [ruleB, Bool.and_eq_true]
      exact ⟨rfl, rfl, guards_dom (.inl rfl), rfl, writes_copy (.inl rfl) rfl rfl⟩
  · rw [exJ_finals] at hf
    simp only [List.mem_singleton] at hf
    subst hf
    have hst : exJ.states = 3 := rfl
    simp [finalB, stateB, guardsB, writesB, hst]
  · rintro ⟨C, hC, j, hj⟩
    have h0 : ¬ C 0 := fun h => by
      obtain ⟨_, r, hr, he, ht, _⟩ := hC 0 h
      rw [exJ_rules] at hr
      simp only [List.mem_cons, List.not_mem_nil, or_false] at hr
      rcases hr with rfl | rfl | rfl <;> simp at ht
    obtain ⟨_, r, hr, he, _, hf⟩ := hC j hj
    rw [exJ_rules] at hr
    simp only [List.mem_cons, List.not_mem_nil, or_false] at hr
    rcases hr with rfl | rfl | rfl
    · exact h0 hf
    · exact h0 hf
    · simp [isEps] at he
theorem fin_same (s : Int) : DescFin (sameV s) := ⟨fun r hr t ht => by
  simp only [sameV, List.mem_singleton] at hr
  subst hr
  simp only [List.mem_singleton] at ht
  subst ht
  decide, fun f hf t ht => by
  simp only [sameV, List.mem_singleton] at hf
  subst hf
  cases ht⟩
theorem fin_empty (a b : Int) : DescFin (emptyD a b) := ⟨fun r hr => (by cases hr), fun f hf => (by cases hf)⟩
theorem fin_exJ : DescFin exJ := ⟨fun r hr t ht => by
  rw [exJ_rules] at hr
  simp only [List.mem_cons, List.not_mem_nil, or_false] at hr
  rcases hr with rfl | rfl | rfl
  · cases ht
  · cases ht
  · simp only [List.mem_singleton] at ht
    subst ht
    decide, fun f hf t ht => by
  rw [exJ_finals] at hf
  simp only [List.mem_singleton] at hf
  subst hf
  cases ht⟩
set_option maxRecDepth 100000 in
theorem law06_awake : PC Try.prog 11 [] (.bool true) := by
  have h1 := desc_Same 1
  have h2 : PC Try.prog 15 [.int .i64 1, .int .i64 1] (descV (emptyD 1 1)) := desc_Empty 1 1
  have h3 := desc_Join (sameV 1) (emptyD 1 1) (fin_same 1) (fin_empty 1 1) (check_same (.inl rfl)).2 (check_empty (.inl rfl) (.inl rfl)).2 rfl rfl (by decide) (by decide) (by decide)
  have h4 : PC Try.prog 14 [descV (joinV (sameV 1) (emptyD 1 1))] (.int .i64 0) := by
    have := desc_Check exJ fin_exJ
    rwa [check_exJ] at this
  have eD : joinV (sameV 1) (emptyD 1 1) = ⟨1, 1, 3, 0, [⟨0, 1, [], 0, []⟩, ⟨0, 2, [], 0, []⟩, ⟨1, 1, [[⟨0, 255⟩]], 1, [copyT]⟩], [⟨1, [], []⟩]⟩ := rfl
  rw [eD] at h3 h4
  clear eD
  generalize sameV 1 = sv at *
  generalize emptyD 1 1 = ev at *
  refine pc_w' c_law06_awake ?_
  unfold B_law06_awake
  (repeat' (first | (simp (disch := omega) only [push_cast, ↓zz, seval]) | (with_reducible refine And.intro ?_ ?_) | (with_reducible refine condW_split ?_ ?_ <;> intro hc <;> (try simp only [push_cast] at hc)) | (with_reducible refine guardW_split ?_ ?_ <;> intro hc <;> (try simp only [push_cast] at hc)) | ((with_reducible first | refine eK h1 ?_ | refine eQ h1 ?_ | refine eG h1 ?_)) | ((with_reducible first | refine eK h2 ?_ | refine eQ h2 ?_ | refine eG h2 ?_)) | ((with_reducible first | refine eK h3 ?_ | refine eQ h3 ?_ | refine eG h3 ?_)) | ((with_reducible first | refine eK h4 ?_ | refine eQ h4 ?_ | refine eG h4 ?_)) | ((with_reducible first | refine cK h1 ?_ | refine cQ h1 ?_ | refine cG h1 ?_); (simp (disch := omega) only [push_cast, ↓zz, seval]); (fail_if_success (with_reducible change False))) | ((with_reducible first | refine cK h2 ?_ | refine cQ h2 ?_ | refine cG h2 ?_); (simp (disch := omega) only [push_cast, ↓zz, seval]); (fail_if_success (with_reducible change False))) | ((with_reducible first | refine cK h3 ?_ | refine cQ h3 ?_ | refine cG h3 ?_); (simp (disch := omega) only [push_cast, ↓zz, seval]); (fail_if_success (with_reducible change False))) | ((with_reducible first | refine cK h4 ?_ | refine cQ h4 ?_ | refine cG h4 ?_); (simp (disch := omega) only [push_cast, ↓zz, seval]); (fail_if_success (with_reducible change False))) | omega | (with_reducible intro _)))
  all_goals trace_state
end Go.Proofs.Yticodgjinajkpaa
set_option linter.unusedSimpArgs false
set_option linter.unusedVariables false
namespace Go.Proofs.Yticodgjinajkpaa
open Abs
structure SzInv (d : Desc) (k : Nat) (f : Bool) (w a l : Int) : Prop where
  le : k ≤ d.rules.length
  fr : freeB d = (f && (d.rules.drop k).all fun r => !isEps r)
  wi : widthV d = (d.rules.drop k).foldl widF w
  ah : aheadV d = (d.rules.drop k).foldl aheF a
  lo : longV d = d.finals.foldl lonG ((d.rules.drop k).foldl lonF l)
  nn : 0 ≤ a
theorem SzInv.step {d : Desc} {k : Nat} {f : Bool} {w a l : Int} (h : SzInv d k f w a l) (hk : k < d.rules.length) {f2 : Bool} {w2 a2 l2 : Int} (e1 : f2 = (f && !isEps (nth d.rules k))) (e2 : w2 = widF w (nth d.rules k)) (e3 : a2 = aheF a (nth d.rules k)) (e4 : l2 = lonF l (nth d.rules k)) : SzInv d (k + 1) f2 w2 a2 l2 where
  le := by omega
  fr := by rw [h.fr, drop_at hk, List.all_cons, e1, Bool.and_assoc]
  wi := by rw [h.wi, fold_at hk, e2]
  ah := by rw [h.ah, fold_at hk, e3]
  lo := by rw [h.lo, fold_at hk, e4]
  nn := by have := h.nn; rw [e3, aheF]; omega
end Go.Proofs.Yticodgjinajkpaa
set_option linter.unusedSimpArgs false
set_option linter.unusedVariables false
namespace Go.Proofs.Yticodgjinajkpaa
open Abs
def famB (n : Nat) (f : Nat → Bool) : List AV := (List.range n).map fun i => AV.bool (f i)
theorem famB_set {n i : Nat} {f : Nat → Bool} {x : Bool} (h : i < n) : (famB n f).set i (.bool x) = famB n fun j => if j = i then x else f j := by
  rw [famB, range_map_set h, famB]
  refine List.map_congr_left fun p _ => ?_
  by_cases e : p = i
  · subst e; simp
  · simp [e]
theorem famB_ext {n : Nat} {f g : Nat → Bool} (h : ∀ i, i < n → f i = g i) : famB n f = famB n g := List.map_congr_left fun i hi => by rw [h i (by simpa using hi)]
theorem famB_rep (n : Nat) : List.replicate n (AV.bool false) = famB n fun _ => false := by
  refine List.ext_getElem (by simp [famB]) fun i h1 h2 => ?_
  simp [famB]
theorem onF_step {l : List Rule} {on : Nat → Bool} {m : Nat} (hm : m < l.length) : onF (l.take (m + 1)) on = fun j => onF (l.take m) on j || (isEps (nth l m) && (on (nth l m).from_.toNat && decide ((nth l m).to_ = j))) := by
  funext j
  rw [onF, take_at hm, List.any_append]
  simp [onF]
theorem someF_step {l : List Rule} {on : Nat → Bool} {m : Nat} (hm : m < l.length) : someF (l.take (m + 1)) on = (someF (l.take m) on || (isEps (nth l m) && on (nth l m).from_.toNat)) := by
  rw [someF, take_at hm, List.any_append]
  simp [someF]
theorem ref06_Cycle (d : Desc) (hd : CycOk d) : PC Try.prog 18 [descV d] (.bool (cycR d.rules d.states.toNat)) := by
  obtain ⟨⟨hn1, hn2⟩, hlen, hrul⟩ := hd
  have hPr := pure_rules d.rules
  have hPf := pure_finals d.finals
  obtain ⟨n, hn⟩ : ∃ n : Nat, d.states = n := ⟨d.states.toNat, by omega⟩
  have pB : ∀ f, pureL (famB n f) = true := fun f => pureL_mem.2 fun x hx => by
    obtain ⟨i, _, rfl⟩ := List.mem_map.1 hx
    rfl
  have lB : ∀ f, (famB n f).length = n := fun f => by simp [famB]
  have aB : ∀ f i, i < n → (famB n f).getD i .any = .bool (f i) := fun f i hi => range_map_at hi
  have rB := famB_rep n
  have hpd : pureL [descV d] = true := by simp [pureL, pure_descs]
  refine pc_w' c_ref06_Cycle ?_
  unfold B_ref06_Cycle
  rw [hn, Int.toNat_natCast]
  (repeat' (first | (simp (disch := omega) only [push_cast, ↓zz, seval, hn]) | (with_reducible refine And.intro ?_ ?_) | (with_reducible refine condW_split ?_ ?_ <;> intro hc <;> (try simp only [push_cast] at hc)) | (with_reducible refine guardW_split ?_ ?_ <;> intro hc <;> (try simp only [push_cast] at hc)) | omega | (with_reducible intro _)))
  refine LoopK_T (T_loopR (fun (k : Nat) => k ≤ n) (fun k => n - k)
    (fun k => [(1, .ptr 0 1 0 0), (3, .ref 1 1 0 n), (13, .int .i64 n), (14, .int .i64 k)]) (fun k => [⟨6, 1, true, [descV d]⟩, ⟨1, 1, true, famB n fun i => decide (i < k)⟩]) (fun env _ => [srcOf 6 (env 1), srcOf 1 (env 3)]) 0 (by simp) ?_ ?_)
  · have e0 : (famB n fun i => decide (i < 0)) = famB n fun _ => false := famB_ext fun i _ => by simp
    (repeat' (first | (simp (disch := omega) only [push_cast, ↓zz, seval, hPr, hPf, hn, rB, e0, pB, lB, Int.toNat_natCast]) | (with_reducible refine And.intro ?_ ?_) | (with_reducible refine condW_split ?_ ?_ <;> intro hc <;> (try simp only [push_cast] at hc)) | (with_reducible refine guardW_split ?_ ?_ <;> intro hc <;> (try simp only [push_cast] at hc)) | omega | (with_reducible intro _)))
  intro k hk
  rcases Nat.lt_or_ge k n with hkn | hkn
  · have hs := famB_set (f := fun i => decide (i < k)) (x := true) hkn
    have he : (famB n fun j => if j = k then true else decide (j < k)) = famB n fun i => decide (i < k + 1) := famB_ext fun i _ => by
      by_cases h : i = k
      · subst h; simp
      · rw [if_neg h, decide_eq_decide]; omega
    rw [he] at hs
    refine W_T ?_
    (repeat' (first | (simp (disch := omega) only [push_cast, ↓zz, seval, hPr, hPf, hn, pB, lB, hs]) | (with_reducible refine And.intro ?_ ?_) | (with_reducible refine condW_split ?_ ?_ <;> intro hc <;> (try simp only [push_cast] at hc)) | (with_reducible refine guardW_split ?_ ?_ <;> intro hc <;> (try simp only [push_cast] at hc)) | omega | (with_reducible intro _)))
    all_goals
      refine ⟨k + 1, ?_⟩
      (repeat' (first | (simp (disch := omega) only [push_cast, ↓zz, seval]) | (with_reducible refine And.intro ?_ ?_) | (with_reducible refine condW_split ?_ ?_ <;> intro hc <;> (try simp only [push_cast] at hc)) | (with_reducible refine guardW_split ?_ ?_ <;> intro hc <;> (try simp only [push_cast] at hc)) | omega | (with_reducible intro _)))
  · have hkk : n = k := by omega
    subst hkk
    have he : (famB n fun i => decide (i < n)) = famB n (onK d.rules 0) := famB_ext fun i hi => by simp [onK, hi]
    rw [he]
    refine W_T ?_
    (repeat' (first | (simp (disch := omega) only [push_cast, ↓zz, seval, hPr, hPf, hn, pB, lB]) | (with_reducible refine And.intro ?_ ?_) | (with_reducible refine condW_split ?_ ?_ <;> intro hc <;> (try simp only [push_cast] at hc)) | (with_reducible refine guardW_split ?_ ?_ <;> intro hc <;> (try simp only [push_cast] at hc)) | omega | (with_reducible intro _)))
    refine LoopK_T (T_loopR (fun (k : Nat) => k ≤ n + 1 ∧ ∀ i, i < k → someF d.rules (onK d.rules i) = true) (fun k => n + 1 - k)
      (fun k => [(1, .ptr 0 1 0 0), (3, .ref 1 1 0 n), (5, .int .i64 k)]) (fun k => [⟨6, 1, true, [descV d]⟩, ⟨1, 1, true, famB n (onK d.rules k)⟩]) (fun env _ => [srcOf 6 (env 1), srcOf 1 (env 3)]) 0 ⟨by simp, fun i hi => by omega⟩ ?_ ?_)
    · (repeat' (first | (simp (disch := omega) only [push_cast, ↓zz, seval, hPr, hPf, hn, pB, lB]) | (with_reducible refine And.intro ?_ ?_) | (with_reducible refine condW_split ?_ ?_ <;> intro hc <;> (try simp only [push_cast] at hc)) | (with_reducible refine guardW_split ?_ ?_ <;> intro hc <;> (try simp only [push_cast] at hc)) | omega | (with_reducible intro _)))
    rintro k ⟨k1, k2⟩
    rcases Nat.lt_or_ge k (n + 1) with hk1 | hk1
    · generalize hon : onK d.rules k = on at *
      refine W_T ?_
      (repeat' (first | (simp (disch := omega) only [push_cast, ↓zz, seval, hPr, hPf, hn, pB, lB, rB, Int.toNat_natCast]) | (with_reducible refine And.intro ?_ ?_) | (with_reducible refine condW_split ?_ ?_ <;> intro hc <;> (try simp only [push_cast] at hc)) | (with_reducible refine guardW_split ?_ ?_ <;> intro hc <;> (try simp only [push_cast] at hc)) | omega | (with_reducible intro _)))
      refine LoopK_T (T_loopR (fun (m : Nat) => m ≤ d.rules.length) (fun m => d.rules.length - m)
        (fun m => [(1, .ptr 0 1 0 0), (3, .ref 1 1 0 n), (5, .int .i64 k), (6, .ref 2 1 0 n), (7, .bool (someF (d.rules.take m) on)), (8, .int .i64 m)]) (fun m => [⟨6, 1, true, [descV d]⟩, ⟨1, 1, true, famB n on⟩, ⟨1, 1, true, famB n (onF (d.rules.take m) on)⟩]) (fun env _ => [srcOf 6 (env 1), srcOf 1 (env 3), srcOf 1 (env 6)]) 0 (by simp) ?_ ?_)
      · have e1 : famB n (onF [] on) = famB n fun _ => false := famB_ext fun i _ => by simp [onF]
        have e2 : someF [] on = false := by simp [someF]
        (repeat' (first | (simp (disch := omega) only [push_cast, ↓zz, seval, hPr, hPf, hn, pB, lB, e1, e2]) | (with_reducible refine And.intro ?_ ?_) | (with_reducible refine condW_split ?_ ?_ <;> intro hc <;> (try simp only [push_cast] at hc)) | (with_reducible refine guardW_split ?_ ?_ <;> intro hc <;> (try simp only [push_cast] at hc)) | omega | (with_reducible intro _)))
      intro m hm
      rcases Nat.lt_or_ge m d.rules.length with hml | hml
      · have hr := hrul _ (nth_mem hml)
        have e1 := onF_step (on := on) hml
        have e2 := someF_step (on := on) hml
        generalize hre : nth d.rules m = r at *
        have hP := pure_guards r.guards
        have hT := pure_terms r.out
        obtain ⟨i, hi⟩ : ∃ i : Nat, r.from_ = i := ⟨r.from_.toNat, by omega⟩
        obtain ⟨j, hj⟩ : ∃ j : Nat, r.to_ = j := ⟨r.to_.toNat, by omega⟩
        have hin : i < n := by omega
        have hjn : j < n := by omega
        have aI := aB on i hin
        have hset := famB_set (f := onF (d.rules.take m) on) (x := true) hjn
        rw [hi, hj, Int.toNat_natCast] at e1
        rw [hi, Int.toNat_natCast] at e2
        by_cases he : (r.guards.length : Int) = 0
        · have hie : isEps r = true := by simp [isEps, he]
          rw [hie] at e1 e2
          cases hoi : on i with
          | true =>
            rw [hoi] at aI e1 e2
            have e3 : (famB n fun p => if p = j then true else onF (d.rules.take m) on p) = famB n (onF (d.rules.take (m + 1)) on) := famB_ext fun p _ => by
              rw [e1]
              by_cases h : p = j
              · subst h; simp
              · have : ¬ (j : Int) = p := by omega
                simp [h, this]
            rw [e3] at hset
            simp only [Bool.and_self, Bool.or_true] at e2
            refine W_T ?_
            (repeat' (first | (simp (disch := omega) only [push_cast, ↓zz, seval, hPr, hPf, hn, pB, lB, hre, hP, hT, hi, hj, he, aI, hset]) | (with_reducible refine And.intro ?_ ?_) | (with_reducible refine condW_split ?_ ?_ <;> intro hc <;> (try simp only [push_cast] at hc)) | (with_reducible refine guardW_split ?_ ?_ <;> intro hc <;> (try simp only [push_cast] at hc)) | omega | (with_reducible intro _)))
            all_goals
              refine ⟨m + 1, ?_⟩
              (repeat' (first | (simp (disch := omega) only [push_cast, ↓zz, seval, e2]) | (with_reducible refine And.intro ?_ ?_) | (with_reducible refine condW_split ?_ ?_ <;> intro hc <;> (try simp only [push_cast] at hc)) | (with_reducible refine guardW_split ?_ ?_ <;> intro hc <;> (try simp only [push_cast] at hc)) | omega | (with_reducible intro _)))
          | false =>
            rw [hoi] at aI e1 e2
            have e3 : famB n (onF (d.rules.take (m + 1)) on) = famB n (onF (d.rules.take m) on) := famB_ext fun p _ => by rw [e1]; simp
            simp only [Bool.and_false, Bool.or_false] at e2
            refine W_T ?_
            (repeat' (first | (simp (disch := omega) only [push_cast, ↓zz, seval, hPr, hPf, hn, pB, lB, hre, hP, hT, hi, hj, he, aI]) | (with_reducible refine And.intro ?_ ?_) | (with_reducible refine condW_split ?_ ?_ <;> intro hc <;> (try simp only [push_cast] at hc)) | (with_reducible refine guardW_split ?_ ?_ <;> intro hc <;> (try simp only [push_cast] at hc)) | omega | (with_reducible intro _)))
            all_goals
              refine ⟨m + 1, ?_⟩
              (repeat' (first | (simp (disch := omega) only [push_cast, ↓zz, seval, e2, e3]) | (with_reducible refine And.intro ?_ ?_) | (with_reducible refine condW_split ?_ ?_ <;> intro hc <;> (try simp only [push_cast] at hc)) | (with_reducible refine guardW_split ?_ ?_ <;> intro hc <;> (try simp only [push_cast] at hc)) | omega | (with_reducible intro _)))
        · have hie : isEps r = false := decide_eq_false he
          rw [hie] at e1 e2
          have e3 : famB n (onF (d.rules.take (m + 1)) on) = famB n (onF (d.rules.take m) on) := famB_ext fun p _ => by rw [e1]; simp
          simp only [Bool.false_and, Bool.or_false] at e2
          refine W_T ?_
          (repeat' (first | (simp (disch := omega) only [push_cast, ↓zz, seval, hPr, hPf, hn, pB, lB, hre, hP, hT, hi, hj, he]) | (with_reducible refine And.intro ?_ ?_) | (with_reducible refine condW_split ?_ ?_ <;> intro hc <;> (try simp only [push_cast] at hc)) | (with_reducible refine guardW_split ?_ ?_ <;> intro hc <;> (try simp only [push_cast] at hc)) | omega | (with_reducible intro _)))
          all_goals
            refine ⟨m + 1, ?_⟩
            (repeat' (first | (simp (disch := omega) only [push_cast, ↓zz, seval, e2, e3]) | (with_reducible refine And.intro ?_ ?_) | (with_reducible refine condW_split ?_ ?_ <;> intro hc <;> (try simp only [push_cast] at hc)) | (with_reducible refine guardW_split ?_ ?_ <;> intro hc <;> (try simp only [push_cast] at hc)) | omega | (with_reducible intro _)))
      · have hme : m = d.rules.length := by omega
        subst hme
        rw [List.take_length]
        have hnx : onF d.rules on = onK d.rules (k + 1) := by rw [← hon]; rfl
        rw [hnx]
        cases hsm : someF d.rules on with
        | false =>
          have hres : cycR d.rules n = false := by
            rw [cycR, List.all_eq_false]
            exact ⟨k, by simp; omega, by rw [hon, hsm]; simp⟩
          rw [hres]
          refine W_T ?_
          (repeat' (first | (simp (disch := omega) only [push_cast, ↓zz, seval, hPr, hPf, hn, pB, lB]) | (with_reducible refine And.intro ?_ ?_) | (with_reducible refine condW_split ?_ ?_ <;> intro hc <;> (try simp only [push_cast] at hc)) | (with_reducible refine guardW_split ?_ ?_ <;> intro hc <;> (try simp only [push_cast] at hc)) | omega | (with_reducible intro _)))
        | true =>
          have hall : ∀ i, i < k + 1 → someF d.rules (onK d.rules i) = true := fun i hi => by
            rcases Nat.lt_or_ge i k with h | h
            · exact k2 i h
            · obtain rfl : i = k := by omega
              rw [hon]; exact hsm
          refine W_T ?_
          (repeat' (first | (simp (disch := omega) only [push_cast, ↓zz, seval, hPr, hPf, hn, pB, lB]) | (with_reducible refine And.intro ?_ ?_) | (with_reducible refine condW_split ?_ ?_ <;> intro hc <;> (try simp only [push_cast] at hc)) | (with_reducible refine guardW_split ?_ ?_ <;> intro hc <;> (try simp only [push_cast] at hc)) | omega | (with_reducible intro _)))
          all_goals
            refine ⟨k + 1, ?_⟩
            (repeat' (first | (simp (disch := omega) only [push_cast, ↓zz, seval]) | (with_reducible refine And.intro ?_ ?_) | (with_reducible refine condW_split ?_ ?_ <;> intro hc <;> (try simp only [push_cast] at hc)) | (with_reducible refine guardW_split ?_ ?_ <;> intro hc <;> (try simp only [push_cast] at hc)) | omega | (with_reducible intro _)))
          all_goals first | exact hall _ (by omega) | exact hall
    · have hke : k = n + 1 := by omega
      have hres : cycR d.rules n = true := by
        rw [cycR, List.all_eq_true]
        intro i hi
        exact k2 i (by simp at hi; omega)
      rw [hres]
      refine W_T ?_
      (repeat' (first | (simp (disch := omega) only [push_cast, ↓zz, seval, hPr, hPf, hn, pB, lB]) | (with_reducible refine And.intro ?_ ?_) | (with_reducible refine condW_split ?_ ?_ <;> intro hc <;> (try simp only [push_cast] at hc)) | (with_reducible refine guardW_split ?_ ?_ <;> intro hc <;> (try simp only [push_cast] at hc)) | omega | (with_reducible intro _)))
      all_goals trace_state
end Go.Proofs.Yticodgjinajkpaa
set_option linter.unusedSimpArgs false
set_option linter.unusedVariables false
namespace Go.Proofs.Yticodgjinajkpaa
open Abs
abbrev edgeV (e : Int × Int) : AV := .agg [.int .u8 e.1, .int .u8 e.2]
abbrev edgesV (l : List (Int × Int)) : AV := .lst 2 (l.map edgeV)
theorem pure_edges (l : List (Int × Int)) : pureL (l.map edgeV) = true := pure_map (fun _ => rfl) l
abbrev shEdges : Sh := .sl true [.int .u8, .int .u8]
def edgeOk (e : Int × Int) : Prop := (0 ≤ e.1 ∧ e.1 ≤ 255) ∧ 0 ≤ e.2 ∧ e.2 ≤ 255
theorem is_edges {x : AV} (h : Is shEdges x) : ∃ l : List (Int × Int), AV.le x (edgesV l) ∧ l.length ≤ maxLen ∧ ∀ e ∈ l, edgeOk e :=
  is_list edgeV edgeOk pure_edges (by decide) (fun cs h => by
    obtain ⟨_, _, rfl, ⟨a, rfl, ha⟩, _, _, rfl, ⟨b, rfl, hb⟩, rfl⟩ := h
    exact ⟨(a, b), AV.le_refl _, wf_u8 ha, wf_u8 hb⟩) h
def mkR (st : Int) (e : Int × Int) : Rule := ⟨e.1 % st, e.2 % st, [], 0, []⟩
def cycD (st : Int) (l : List (Int × Int)) : Desc := ⟨1, 1, st, 0, l.map (mkR st), []⟩
theorem cycD_ok {st : Int} {l : List (Int × Int)} (hs : 1 ≤ st ∧ st ≤ 40) (hl : l.length ≤ 200) (he : ∀ e ∈ l, edgeOk e) : CycOk (cycD st l) where
  st := by simp only [cycD]; omega
  len := by simp only [cycD, List.length_map]; omega
  rul r hr := by
    obtain ⟨e, _, rfl⟩ := List.mem_map.1 hr
    simp only [mkR, cycD]
    have h1 := Int.emod_nonneg e.1 (by omega : st ≠ 0)
    have h2 := Int.emod_lt_of_pos e.1 (by omega : 0 < st)
    have h3 := Int.emod_nonneg e.2 (by omega : st ≠ 0)
    have h4 := Int.emod_lt_of_pos e.2 (by omega : 0 < st)
    omega
open Classical in
theorem cycD_where {st : Int} {l : List (Int × Int)} (hs : 1 ≤ st ∧ st ≤ 40) (hl : l.length ≤ 200) (he : ∀ e ∈ l, edgeOk e) : whereV (cycD st l) = if cycP (cycD st l).rules (cycD st l).states.toNat then (4, 0) else (0, 0) := by
  have hok := cycD_ok hs hl he
  have hh : headB (cycD st l) = true := by
    simp only [headB, stateB, Bool.and_eq_true]
    exact ⟨rfl, rfl, decide_eq_true hs.1, decide_eq_true (show st ≤ 1024 by omega), ⟨rfl, decide_eq_true (show (0 : Int) < st by omega)⟩, decide_eq_true (show ((l.map (mkR st)).length : Int) ≤ 4096 by simp; omega), rfl⟩
  have hr : ∀ r ∈ (cycD st l).rules, ruleB (cycD st l) r = true := fun r hr => by
    have h0 := hok.rul r hr
    obtain ⟨e, _, rfl⟩ := List.mem_map.1 hr
    simp only [ruleB, stateB, Bool.and_eq_true, decide_eq_true_eq]
    exact ⟨h0.1, h0.2, rfl, rfl, rfl⟩
  rw [whereV, if_neg (by simp [hh]), badAt_ok hr]
  simp only
  rw [badAt_ok (p := finalB (cycD st l)) (l := (cycD st l).finals) fun f hf => by cases hf]
theorem cycD_fin (st : Int) (l : List (Int × Int)) : DescFin (cycD st l) := by
  refine ⟨fun r hr t ht => ?_, fun f hf => ?_⟩
  · obtain ⟨e, _, rfl⟩ := List.mem_map.1 hr
    cases ht
  · cases hf
theorem leSL_snoc {l : List Grp} {x y : AV} (h : leS l x y) : ∀ xs : List AV, leSL l (xs ++ [x]) (xs ++ [y])
  | [] => ⟨h, rfl⟩
  | a :: xs => ⟨leS_refl _ _, leSL_snoc h xs⟩
theorem u64_bd (n : Int) : 0 ≤ IntKind.u64.wrap n ∧ IntKind.u64.wrap n ≤ 18446744073709551615 := by
  simp [IntKind.wrap, IntKind.bits, IntKind.signed]
  omega
theorem nil_rule (l : List Grp) (a b : Int) : leS l (.agg [.int .i64 a, .int .i64 b, .nilS, .int .i64 0, .nilS]) (ruleV ⟨a, b, [], 0, []⟩) := ⟨⟨rfl, rfl⟩, ⟨rfl, rfl⟩, ⟨Nat.one_pos, rfl⟩, ⟨rfl, rfl⟩, ⟨by decide, rfl⟩, rfl⟩
theorem law_DescCycles (n : Int) (l : List (Int × Int)) (hll : l.length ≤ maxLen) (he : ∀ e ∈ l, edgeOk e) : PC Try.prog 6 [.int .i64 n, edgesV l] (.bool true) := by
  have hA := law06_awake
  have hPe := pure_edges l
  by_cases h2 : 200 < l.length
  · refine pc_w' c_law06_DescCycles ?_
    unfold B_law06_DescCycles
    (repeat' (first | (simp (disch := omega) only [push_cast, ↓zz, seval]) | (with_reducible refine And.intro ?_ ?_) | (with_reducible refine condW_split ?_ ?_ <;> intro hc <;> (try simp only [push_cast] at hc)) | (with_reducible refine guardW_split ?_ ?_ <;> intro hc <;> (try simp only [push_cast] at hc)) | ((with_reducible first | refine eK hA ?_ | refine eQ hA ?_ | refine eG hA ?_)) | ((with_reducible first | refine cK hA ?_ | refine cQ hA ?_ | refine cG hA ?_); (simp (disch := omega) only [push_cast, ↓zz, seval]); (fail_if_success (with_reducible change False))) | omega | (with_reducible intro _)))
  have hu := u64_bd n
  refine pc_w' c_law06_DescCycles ?_
  unfold B_law06_DescCycles
  generalize hun : IntKind.u64.wrap n = u at *
  have ht : u.tmod 40 = u % 40 := Int.tmod_eq_emod_of_nonneg hu.1
  have hw1 : IntKind.u64.wrap (u % 40) = u % 40 := IntWalk.u64_in _ (by omega)
  have hw2 : IntKind.i64.wrap (u % 40) = u % 40 := IntWalk.i64_in _ (by omega)
  have hst : 1 ≤ 1 + u % 40 ∧ 1 + u % 40 ≤ 40 := by omega
  (repeat' (first | (simp (disch := omega) only [push_cast, ↓zz, seval, hun, ht, hw1, hw2]) | (with_reducible refine And.intro ?_ ?_) | (with_reducible refine condW_split ?_ ?_ <;> intro hc <;> (try simp only [push_cast] at hc)) | (with_reducible refine guardW_split ?_ ?_ <;> intro hc <;> (try simp only [push_cast] at hc)) | omega | (with_reducible intro _)))
  generalize 1 + u % 40 = st at *
  obtain ⟨g, g0, gs, ge, gl⟩ := grow_list ([] : List Rule) l (mkR st)
  refine LoopK_T (T_loopR (fun (k : Nat) => k ≤ l.length) (fun k => l.length - k)
    (fun k => [(1, edgesV l), (5, .ptr 0 1 0 0), (6, .int .i64 k)]) (fun k => [⟨6, 1, true, [.agg [.int .i64 1, .int .i64 1, .int .i64 st, .int .i64 0, .ref 1 1 0 (g k).length, .nilS]]⟩, ⟨5, 1, false, (g k).map ruleV⟩]) (fun env H => [srcOf 6 (env 5), srcOf 5 (cellAt H (env 5) 4)]) 0 (by simp) ?_ ?_)
  · (repeat' (first | (simp (disch := omega) only [push_cast, ↓zz, seval, hPe, g0]) | (with_reducible refine And.intro ?_ ?_) | (with_reducible refine condW_split ?_ ?_ <;> intro hc <;> (try simp only [push_cast] at hc)) | (with_reducible refine guardW_split ?_ ?_ <;> intro hc <;> (try simp only [push_cast] at hc)) | omega | (with_reducible intro _)))
  intro k hk
  have hgp := pure_rules (g k)
  have gk := gl k
  simp only [List.length_nil] at gk
  rcases Nat.lt_or_ge k l.length with hkl | hkl
  · have hek := he _ (nth_mem hkl)
    have e1 := gs k hkl
    generalize hxe : nth l k = x at *
    obtain ⟨⟨x1, x2⟩, x3, x4⟩ := hek
    have hc1 : IntKind.i64.wrap x.1 = x.1 := IntWalk.i64_in _ (by omega)
    have hc2 : IntKind.i64.wrap x.2 = x.2 := IntWalk.i64_in _ (by omega)
    have ht1 : x.1.tmod st = x.1 % st := Int.tmod_eq_emod_of_nonneg x1
    have ht2 : x.2.tmod st = x.2 % st := Int.tmod_eq_emod_of_nonneg x3
    have q1 := Int.emod_nonneg x.1 (by omega : st ≠ 0)
    have q2 := Int.emod_lt_of_pos x.1 (by omega : 0 < st)
    have q3 := Int.emod_nonneg x.2 (by omega : st ≠ 0)
    have q4 := Int.emod_lt_of_pos x.2 (by omega : 0 < st)
    have hd1 : IntKind.i64.wrap (x.1 % st) = x.1 % st := IntWalk.i64_in _ (by omega)
    have hd2 : IntKind.i64.wrap (x.2 % st) = x.2 % st := IntWalk.i64_in _ (by omega)
    refine W_T ?_
    (repeat' (first | (simp (disch := omega) only [push_cast, ↓zz, seval, hPe, hgp, hxe, hc1, hc2, ht1, ht2, hd1, hd2]) | (with_reducible refine And.intro ?_ ?_) | (with_reducible refine condW_split ?_ ?_ <;> intro hc <;> (try simp only [push_cast] at hc)) | (with_reducible refine guardW_split ?_ ?_ <;> intro hc <;> (try simp only [push_cast] at hc)) | omega | (with_reducible intro _)))
    all_goals
      refine ⟨k + 1, ?_⟩
      (repeat' (first | (simp (disch := omega) only [push_cast, ↓zz, seval, e1, mkR]) | (with_reducible refine And.intro ?_ ?_) | (with_reducible refine condW_split ?_ ?_ <;> intro hc <;> (try simp only [push_cast] at hc)) | (with_reducible refine guardW_split ?_ ?_ <;> intro hc <;> (try simp only [push_cast] at hc)) | omega | (with_reducible intro _)))
    all_goals exact leSL_snoc (nil_rule _ _ _) _
  · have hke : k = l.length := by omega
    subst hke
    have hR : g l.length = (cycD st l).rules := by rw [ge]; rfl
    have hgl : (g l.length).length = l.length := by rw [ge]; simp
    have hD : descV (cycD st l) = .agg [.int .i64 1, .int .i64 1, .int .i64 st, .int .i64 0, rulesV (g l.length), .lst 3 []] := by rw [hR]; rfl
    have hok := cycD_ok hst (by omega) he
    have hW := desc_Where (cycD st l) (cycD_fin st l)
    have hC := ref06_Cycle (cycD st l) hok
    have hwh := cycD_where hst (by omega) he
    have hiff := cyc_same (n := (cycD st l).states.toNat) (l := (cycD st l).rules) fun r hr => by
      have h1 := hok.rul r hr
      have h2 := hok.st
      omega
    rw [hD] at hW hC
    have hcase : (whereV (cycD st l) = (4, 0) ∧ cycR (cycD st l).rules (cycD st l).states.toNat = true) ∨ (whereV (cycD st l) = (0, 0) ∧ cycR (cycD st l).rules (cycD st l).states.toNat = false) := by
      by_cases hc : cycP (cycD st l).rules (cycD st l).states.toNat
      · exact .inl ⟨by rw [hwh, if_pos hc], hiff.2 hc⟩
      · refine .inr ⟨by rw [hwh, if_neg hc], ?_⟩
        cases h : cycR (cycD st l).rules (cycD st l).states.toNat
        · rfl
        · exact absurd (hiff.1 h) hc
    clear gs
    generalize hgL : g l.length = R at *
    have et : List.take l.length R = R := List.take_of_length_le (by omega)
    obtain ⟨kk, c, e1, e2, hkk⟩ : ∃ (kk : Int) (c : Bool), whereV (cycD st l) = (kk, 0) ∧ cycR (cycD st l).rules (cycD st l).states.toNat = c ∧ ((kk = 4 ∧ c = true) ∨ (kk = 0 ∧ c = false)) := by
      rcases hcase with ⟨c1, c2⟩ | ⟨c1, c2⟩
      · exact ⟨4, true, c1, c2, .inl ⟨rfl, rfl⟩⟩
      · exact ⟨0, false, c1, c2, .inr ⟨rfl, rfl⟩⟩
    rw [e1] at hW
    rw [e2] at hC
    clear e1 e2 hcase hiff hwh hD hR ge
    refine W_T ?_
    (repeat' (first | (simp (disch := omega) only [push_cast, ↓zz, seval, hPe, hgp, hgl, et, List.map_nil]) | (with_reducible refine And.intro ?_ ?_) | (with_reducible refine condW_split ?_ ?_ <;> intro hc <;> (try simp only [push_cast] at hc)) | (with_reducible refine guardW_split ?_ ?_ <;> intro hc <;> (try simp only [push_cast] at hc)) | ((with_reducible first | refine eK hW ?_ | refine eQ hW ?_ | refine eG hW ?_)) | ((with_reducible first | refine eK hC ?_ | refine eQ hC ?_ | refine eG hC ?_)) | ((with_reducible first | refine eK hA ?_ | refine eQ hA ?_ | refine eG hA ?_)) | ((with_reducible first | refine cK hW ?_ | refine cQ hW ?_ | refine cG hW ?_); (simp (disch := omega) only [push_cast, ↓zz, seval, hPe, hgp, hgl, et, List.map_nil]); (fail_if_success (with_reducible change False))) | ((with_reducible first | refine cK hC ?_ | refine cQ hC ?_ | refine cG hC ?_); (simp (disch := omega) only [push_cast, ↓zz, seval, hPe, hgp, hgl, et, List.map_nil]); (fail_if_success (with_reducible change False))) | ((with_reducible first | refine cK hA ?_ | refine cQ hA ?_ | refine cG hA ?_); (simp (disch := omega) only [push_cast, ↓zz, seval, hPe, hgp, hgl, et, List.map_nil]); (fail_if_success (with_reducible change False))) | omega | (with_reducible intro _)))
    all_goals (rcases hkk with ⟨rfl, rfl⟩ | ⟨rfl, rfl⟩ <;> rename_i hc <;> revert hc <;> decide)
end Go.Proofs.Yticodgjinajkpaa
