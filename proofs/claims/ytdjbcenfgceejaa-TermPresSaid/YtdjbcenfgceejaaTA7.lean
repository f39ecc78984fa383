/-
  The symbols of which a term's value is in a set, and of which two terms have one value, as the code finds them.
  Contracts of layer 4's statements: the symbols of which a term's value is in a set, or of which two terms have one value.
  The statements TermPres, TermEquals, TermFar, as contracts.
-/
import Derived.Test.YtdjbcenfgceejaaTA6
import Derived.Test.YtdjbcenfgceejaaTA5
set_option linter.unusedSimpArgs false
set_option linter.unusedVariables false
namespace Go.Proofs.Ytdjbcenfgceejaa
open Abs
theorem pre_fun (t : Term) (g : List Span) (x : Int) (ht : t.parts.length ≤ 1000000000000) (hg : g.length ≤ 10000000000) (hx : 0 ≤ x) (hx2 : x ≤ 1114111) :
    PC Try.prog 62 [.int .i32 x, .cptr (termV t), .cptr (spansV g)] (.bool (preP t g x)) := by
  have hv := term_Value t [x] ht (by simp) (by simp; omega)
  have hh := span_Has g ((valueT t [x]).getD 0) (by omega)
  refine pc_w' c_term_Pre_1 ?_
  unfold B_term_Pre_1
  (repeat' (first | (simp (disch := omega) only [push_cast, ↓zz, seval]) | (with_reducible refine And.intro ?_ ?_) | (with_reducible refine condW_split ?_ ?_ <;> intro hc <;> (try simp only [push_cast] at hc)) | (with_reducible refine guardW_split ?_ ?_ <;> intro hc <;> (try simp only [push_cast] at hc)) | ((with_reducible first | refine eK hv ?_ | refine eQ hv ?_ | refine eG hv ?_)) | ((with_reducible first | refine eK hh ?_ | refine eQ hh ?_ | refine eG hh ?_)) | ((with_reducible first | refine cK hv ?_ | refine cQ hv ?_ | refine cG hv ?_); (simp (disch := omega) only [push_cast, ↓zz, seval]); (fail_if_success (with_reducible change False))) | ((with_reducible first | refine cK hh ?_ | refine cQ hh ?_ | refine cG hh ?_); (simp (disch := omega) only [push_cast, ↓zz, seval]); (fail_if_success (with_reducible change False))) | omega | (with_reducible intro _)))
  all_goals (simp [preP, *])
theorem sym_meet (s : List Span) : meetL (normI s) (normI [⟨0, 1114111⟩]) = symI s := by rw [symI, makeR_meet]
theorem sym_norm (s : List Span) : normI (symI s) = symI s := norm_self (symI_spec s).1 fun t ht => by have := (symI_syms s).2 t ht; omega
theorem preL_len (p : Part) (s g : List Span) : (preL p s g).length ≤ 2097152 := by
  cases hb : bitsB p
  · rw [preL, if_pos hb]; simp
  · obtain ⟨h1, h2⟩ := pre_spec s g hb
    have := low_len (f := 0) (N := 2097152) h1 (fun t ht => by
      have hle := h1.1 t ht
      have := ((h2 t.lo).1 ⟨t, ht, Int.le_refl _, hle⟩).2.1
      have := ((h2 t.hi).1 ⟨t, ht, hle, Int.le_refl _⟩).2.1
      simp only [Int.ofNat_zero]; omega) (Nat.zero_le _)
    omega
theorem move_len (l : List Span) (d : Int) : (moveL l d).length ≤ l.length := by
  unfold moveL
  split
  · simp
  · have h1 := normI_len ((normI l).map (shiftS d))
    have h2 := normI_len l
    simp only [List.length_map] at h1
    omega
set_option maxHeartbeats 1000000 in
theorem term_Pre (t : Term) (s g : List Span) (ht : t.parts.length ≤ 1000000000000) (hs : s.length ≤ 50000) (hg : g.length ≤ 10000000000) : PC Try.prog 29 [termV t, spansV s, spansV g] (spansV (preT t s g)) := by
  have hM := span_Meet s [⟨0, 1114111⟩] (by omega) (by simp)
  rw [sym_meet] at hM
  have hsl := (symI_syms s).len
  have hsl2 : (symI s).length ≤ 50001 := by
    rw [← sym_meet]
    have h1 := meet_len (normI s) (normI [⟨0, 1114111⟩])
    have h2 := normI_len s
    have h3 := normI_len [(⟨0, 1114111⟩ : Span)]
    simp only [List.length_singleton] at h3
    omega
  have hMv := span_Move g (IntKind.i64.wrap (0 - t.base)) (by omega)
  have hml := move_len g (IntKind.i64.wrap (0 - t.base))
  have hP1 := part_Pre t.outer [⟨0, 1114111⟩] (moveL g (IntKind.i64.wrap (0 - t.base))) (by simp) (by omega)
  have hzl := preL_len t.outer [⟨0, 1114111⟩] (moveL g (IntKind.i64.wrap (0 - t.base)))
  have hMv2 := span_Move (preL t.outer [⟨0, 1114111⟩] (moveL g (IntKind.i64.wrap (0 - t.base)))) (IntKind.i64.wrap (0 - t.sum)) (by omega)
  have hml2 := move_len (preL t.outer [⟨0, 1114111⟩] (moveL g (IntKind.i64.wrap (0 - t.base)))) (IntKind.i64.wrap (0 - t.sum))
  have hP2 := part_Pre (nth t.parts 0) (symI s) (moveL (preL t.outer [⟨0, 1114111⟩] (moveL g (IntKind.i64.wrap (0 - t.base)))) (IntKind.i64.wrap (0 - t.sum))) (by omega) (by omega)
  have hfin : t.parts.length = 1 → rightB (nth t.parts 0) 1 = true → bitsB t.outer = true → smallB t.base = true → smallB t.sum = true → preL (nth t.parts 0) (symI s) (moveL (preL t.outer [⟨0, 1114111⟩] (moveL g (IntKind.i64.wrap (0 - t.base)))) (IntKind.i64.wrap (0 - t.sum))) = preT t s g := fun h1 h2 h3 h4 h5 => by
    have b1 := small_bd h4
    have b2 := small_bd h5
    have hp : t.parts = [nth t.parts 0] := by
      match hq : t.parts, h1 with
      | [p], _ => simp [nth]
    rw [show IntKind.i64.wrap (0 - t.base) = -t.base by rw [IntWalk.i64_in _ (by omega)]; omega, show IntKind.i64.wrap (0 - t.sum) = -t.sum by rw [IntWalk.i64_in _ (by omega)]; omega]
    exact pre_one s g hp h2 h3 h5 h4
  have hG := term_gather (symI s) 62 [.cptr (termV t), .cptr (spansV g)] (by simp [pureL, AV.pure, pure_parts, pure_spans]) (preP t g) (by omega) (by rw [sym_norm]; exact symI_syms s) (fun x h1 h2 => pre_fun t g x ht hg h1 h2)
  rw [sym_norm] at hG
  refine pc_w' c_term_Pre ?_
  unfold B_term_Pre
  (repeat' (first | (simp (disch := omega) only [push_cast, ↓zz, seval]) | (with_reducible refine And.intro ?_ ?_) | (with_reducible refine condW_split ?_ ?_ <;> intro hc <;> (try simp only [push_cast] at hc)) | (with_reducible refine guardW_split ?_ ?_ <;> intro hc <;> (try simp only [push_cast] at hc)) | ((with_reducible first | refine eK term_symbols ?_ | refine eQ term_symbols ?_ | refine eG term_symbols ?_)) | ((with_reducible first | refine eK hM ?_ | refine eQ hM ?_ | refine eG hM ?_)) | (have q_ := part_Right (nth t.parts 0) 1; (with_reducible first | refine eK q_ ?_ | refine eQ q_ ?_ | refine eG q_ ?_); clear q_) | (have q_ := term_outer t; (with_reducible first | refine eK q_ ?_ | refine eQ q_ ?_ | refine eG q_ ?_); clear q_) | (have q_ := part_Right1 t; (with_reducible first | refine eK q_ ?_ | refine eQ q_ ?_ | refine eG q_ ?_); clear q_) | (have q_ := term_small t.base; (with_reducible first | refine eK q_ ?_ | refine eQ q_ ?_ | refine eG q_ ?_); clear q_) | (have q_ := term_small t.sum; (with_reducible first | refine eK q_ ?_ | refine eQ q_ ?_ | refine eG q_ ?_); clear q_) | ((with_reducible first | refine eK hG ?_ | refine eQ hG ?_ | refine eG hG ?_)) | ((with_reducible first | refine eK hMv ?_ | refine eQ hMv ?_ | refine eG hMv ?_)) | ((with_reducible first | refine eK hP1 ?_ | refine eQ hP1 ?_ | refine eG hP1 ?_)) | ((with_reducible first | refine eK hMv2 ?_ | refine eQ hMv2 ?_ | refine eG hMv2 ?_)) | ((with_reducible first | refine eK hP2 ?_ | refine eQ hP2 ?_ | refine eG hP2 ?_)) | ((with_reducible first | refine cK term_symbols ?_ | refine cQ term_symbols ?_ | refine cG term_symbols ?_); (simp (disch := omega) only [push_cast, ↓zz, seval]); (fail_if_success (with_reducible change False))) | ((with_reducible first | refine cK hM ?_ | refine cQ hM ?_ | refine cG hM ?_); (simp (disch := omega) only [push_cast, ↓zz, seval]); (fail_if_success (with_reducible change False))) | (have q_ := part_Right (nth t.parts 0) 1; (with_reducible first | refine cK q_ ?_ | refine cQ q_ ?_ | refine cG q_ ?_); clear q_; (simp (disch := omega) only [push_cast, ↓zz, seval]); (fail_if_success (with_reducible change False))) | (have q_ := term_outer t; (with_reducible first | refine cK q_ ?_ | refine cQ q_ ?_ | refine cG q_ ?_); clear q_; (simp (disch := omega) only [push_cast, ↓zz, seval]); (fail_if_success (with_reducible change False))) | (have q_ := part_Right1 t; (with_reducible first | refine cK q_ ?_ | refine cQ q_ ?_ | refine cG q_ ?_); clear q_; (simp (disch := omega) only [push_cast, ↓zz, seval]); (fail_if_success (with_reducible change False))) | (have q_ := term_small t.base; (with_reducible first | refine cK q_ ?_ | refine cQ q_ ?_ | refine cG q_ ?_); clear q_; (simp (disch := omega) only [push_cast, ↓zz, seval]); (fail_if_success (with_reducible change False))) | (have q_ := term_small t.sum; (with_reducible first | refine cK q_ ?_ | refine cQ q_ ?_ | refine cG q_ ?_); clear q_; (simp (disch := omega) only [push_cast, ↓zz, seval]); (fail_if_success (with_reducible change False))) | ((with_reducible first | refine cK hG ?_ | refine cQ hG ?_ | refine cG hG ?_); (simp (disch := omega) only [push_cast, ↓zz, seval]); (fail_if_success (with_reducible change False))) | ((with_reducible first | refine cK hMv ?_ | refine cQ hMv ?_ | refine cG hMv ?_); (simp (disch := omega) only [push_cast, ↓zz, seval]); (fail_if_success (with_reducible change False))) | ((with_reducible first | refine cK hP1 ?_ | refine cQ hP1 ?_ | refine cG hP1 ?_); (simp (disch := omega) only [push_cast, ↓zz, seval]); (fail_if_success (with_reducible change False))) | ((with_reducible first | refine cK hMv2 ?_ | refine cQ hMv2 ?_ | refine cG hMv2 ?_); (simp (disch := omega) only [push_cast, ↓zz, seval]); (fail_if_success (with_reducible change False))) | ((with_reducible first | refine cK hP2 ?_ | refine cQ hP2 ?_ | refine cG hP2 ?_); (simp (disch := omega) only [push_cast, ↓zz, seval]); (fail_if_success (with_reducible change False))) | omega | (with_reducible intro _)))
  all_goals first
    | rfl
    | (rw [hfin (by omega) ‹_› ‹_› ‹_› ‹_›]; done)
    | trace_state
theorem slices_Equal (l m : List Part) (hl : l.length ≤ 1000000000000) : PC Try.prog 67 [partsV l, partsV m] (.bool (decide (l = m))) := by
  refine pc_w' c_slices_Equal_api_Part_api_Part ?_
  unfold B_slices_Equal_api_Part_api_Part
  (repeat' (first | (simp (disch := omega) only [push_cast, ↓zz, seval]) | (with_reducible refine And.intro ?_ ?_) | (with_reducible refine condW_split ?_ ?_ <;> intro hc <;> (try simp only [push_cast] at hc)) | (with_reducible refine guardW_split ?_ ?_ <;> intro hc <;> (try simp only [push_cast] at hc)) | omega | (with_reducible intro _)))
  · have : l ≠ m := by intro h; subst h; first | omega | simp_all
    simp [this]
  refine LoopK_T (T_loopR (fun (k : Nat) => k ≤ l.length ∧ decide (l = m) = decide (l.drop k = m.drop k)) (fun k => l.length - k)
    (fun k => [(0, partsV l), (1, partsV m), (12, .int .i64 l.length), (13, .int .i64 k)]) (fun s => []) (fun env _ => []) 0 (by simp) ?_ ?_)
  · (repeat' (first | (simp (disch := omega) only [push_cast, ↓zz, seval]) | (with_reducible refine And.intro ?_ ?_) | (with_reducible refine condW_split ?_ ?_ <;> intro hc <;> (try simp only [push_cast] at hc)) | (with_reducible refine guardW_split ?_ ?_ <;> intro hc <;> (try simp only [push_cast] at hc)) | omega | (with_reducible intro _)))
  rintro k ⟨hk, hr⟩
  refine W_T ?_
  (repeat' (first | (simp (disch := omega) only [push_cast, ↓zz, seval, part_eq_iff]) | (with_reducible refine And.intro ?_ ?_) | (with_reducible refine condW_split ?_ ?_ <;> intro hc <;> (try simp only [push_cast] at hc)) | (with_reducible refine guardW_split ?_ ?_ <;> intro hc <;> (try simp only [push_cast] at hc)) | omega | (with_reducible intro _)))
  all_goals first
    | (rw [hr, partsEq_at (by omega) (by omega)]; simp [*]; done)
    | (refine ⟨k + 1, ?_⟩
       (repeat' (first | (simp (disch := omega) only [push_cast, ↓zz, seval]) | (with_reducible refine And.intro ?_ ?_) | (with_reducible refine condW_split ?_ ?_ <;> intro hc <;> (try simp only [push_cast] at hc)) | (with_reducible refine guardW_split ?_ ?_ <;> intro hc <;> (try simp only [push_cast] at hc)) | omega | (with_reducible intro _)))
       rw [hr, partsEq_at (by omega) (by omega)]; simp [*]; done)
    | (rw [hr, List.drop_of_length_le (by omega), List.drop_of_length_le (by omega)]; simp; done)
    | trace_state
theorem term_alike (a b : Term) (x : Int) (ha : a.parts.length ≤ 1000000000000) (hb : b.parts.length ≤ 1000000000000) (hx : -2147483648 ≤ x ∧ x ≤ 2147483647) :
    PC Try.prog 66 [termV a, termV b, .int .i32 x] (.bool (eqP a b x)) := by
  have hv := term_Value a [x] ha (by simp) (by simp; omega)
  have hw := term_Value b [x] hb (by simp) (by simp; omega)
  refine pc_w' c_term_alike ?_
  unfold B_term_alike
  (repeat' (first | (simp (disch := omega) only [push_cast, ↓zz, seval]) | (with_reducible refine And.intro ?_ ?_) | (with_reducible refine condW_split ?_ ?_ <;> intro hc <;> (try simp only [push_cast] at hc)) | (with_reducible refine guardW_split ?_ ?_ <;> intro hc <;> (try simp only [push_cast] at hc)) | ((with_reducible first | refine eK hv ?_ | refine eQ hv ?_ | refine eG hv ?_)) | ((with_reducible first | refine eK hw ?_ | refine eQ hw ?_ | refine eG hw ?_)) | ((with_reducible first | refine cK hv ?_ | refine cQ hv ?_ | refine cG hv ?_); (simp (disch := omega) only [push_cast, ↓zz, seval]); (fail_if_success (with_reducible change False)); (repeat' (first | (with_reducible refine And.intro ?_ ?_) | omega)); (fail_if_success (any_goals (with_reducible change @Eq (List AV) _ _)))) | ((with_reducible first | refine cK hw ?_ | refine cQ hw ?_ | refine cG hw ?_); (simp (disch := omega) only [push_cast, ↓zz, seval]); (fail_if_success (with_reducible change False)); (repeat' (first | (with_reducible refine And.intro ?_ ?_) | omega)); (fail_if_success (any_goals (with_reducible change @Eq (List AV) _ _)))) | omega | (with_reducible intro _)))
  all_goals (simp [eqP, *])
theorem eq_fun1 (a b : Term) (x : Int) (ha : a.parts.length ≤ 1000000000000) (hb : b.parts.length ≤ 1000000000000) (hx : 0 ≤ x) (hx2 : x ≤ 1114111) :
    PC Try.prog 65 [.int .i32 x, .cptr (termV a), .cptr (termV b)] (.bool (eqP a b x)) := by
  refine pc_w' c_term_Equal_1 ?_
  unfold B_term_Equal_1
  (repeat' (first | (simp (disch := omega) only [push_cast, ↓zz, seval]) | (with_reducible refine And.intro ?_ ?_) | (with_reducible refine condW_split ?_ ?_ <;> intro hc <;> (try simp only [push_cast] at hc)) | (with_reducible refine guardW_split ?_ ?_ <;> intro hc <;> (try simp only [push_cast] at hc)) | (have q_ := term_alike a b x ha hb (by omega); (with_reducible first | refine eK q_ ?_ | refine eQ q_ ?_ | refine eG q_ ?_); clear q_) | (have q_ := term_alike a b x ha hb (by omega); (with_reducible first | refine cK q_ ?_ | refine cQ q_ ?_ | refine cG q_ ?_); clear q_; (simp (disch := omega) only [push_cast, ↓zz, seval]); (fail_if_success (with_reducible change False))) | omega | (with_reducible intro _)))
theorem eq_fun2 (a b : Term) (x : Int) (ha : a.parts.length ≤ 1000000000000) (hb : b.parts.length ≤ 1000000000000) (hx : 0 ≤ x) (hx2 : x ≤ 1114111) :
    PC Try.prog 68 [.int .i32 x, .cptr (termV a), .cptr (termV b)] (.bool (eqP a b x)) := by
  refine pc_w' c_term_Equal_2 ?_
  unfold B_term_Equal_2
  (repeat' (first | (simp (disch := omega) only [push_cast, ↓zz, seval]) | (with_reducible refine And.intro ?_ ?_) | (with_reducible refine condW_split ?_ ?_ <;> intro hc <;> (try simp only [push_cast] at hc)) | (with_reducible refine guardW_split ?_ ?_ <;> intro hc <;> (try simp only [push_cast] at hc)) | (have q_ := term_alike a b x ha hb (by omega); (with_reducible first | refine eK q_ ?_ | refine eQ q_ ?_ | refine eG q_ ?_); clear q_) | (have q_ := term_alike a b x ha hb (by omega); (with_reducible first | refine cK q_ ?_ | refine cQ q_ ?_ | refine cG q_ ?_); clear q_; (simp (disch := omega) only [push_cast, ↓zz, seval]); (fail_if_success (with_reducible change False))) | omega | (with_reducible intro _)))
theorem eq_comm' (a b : Term) : eqP a b = eqP b a := by
  funext x
  rw [Bool.eq_iff_iff]
  simp only [eqP, Bool.and_eq_true, decide_eq_true_eq]
  constructor
  · rintro ⟨h1, h2, h3⟩; exact ⟨h2, h1, h3.symm⟩
  · rintro ⟨h1, h2, h3⟩; exact ⟨h2, h1, h3.symm⟩
theorem value_none {t : Term} {x : Int} (h : t.parts = []) (hx : 0 ≤ x ∧ x ≤ 1114111) : valueT t [x] = valueT t [0] := by
  have h1 : [x].all symB = true := by simp [symB]; omega
  have h2 : [(0 : Int)].all symB = true := by simp [symB]
  simp only [valueT, h1, h2, h, sumP]
theorem eq_nil {a b : Term} {s : List Span} (h : ∀ x, 0 ≤ x ∧ x ≤ 1114111 → eqP a b x = false) : eqT a b s = [] := by
  obtain ⟨h1, h2⟩ := symI_spec s
  obtain ⟨b1, b2⟩ := gather_spec (eqP a b) h1
  refine plain_ext b1 ⟨by simp, by simp⟩ fun v => ?_
  rw [show memL (eqT a b s) v ↔ _ from b2 v]
  constructor
  · rintro ⟨h3, h4⟩
    rw [h v ((h2 v).1 h3).1] at h4; cases h4
  · exact fun h => absurd h (memL_nil _)
theorem sym_sym (s : List Span) : symI (symI s) = symI s := by
  obtain ⟨h1, h2⟩ := symI_spec s
  obtain ⟨b1, b2⟩ := symI_spec (symI s)
  refine plain_ext b1 h1 fun v => ?_
  rw [b2 v, h2 v]
  constructor
  · exact fun h => h.2
  · exact fun h => ⟨h.1, h⟩
theorem eq_const {a b : Term} {s : List Span} {v : Int} (ha : a.parts = []) (hv : valueT a [0] = some v) (hb : -1073741824 ≤ v ∧ v ≤ 1073741824) : preT b s [⟨v, v⟩] = eqT a b s := by
  refine gather_ext (symI_spec s).1 fun x hx => ?_
  have hxs := (((symI_spec s).2 x).1 hx).1
  rw [preP, eqP, value_none ha hxs, hv]
  simp only [Option.isSome_some, Bool.true_and, Option.getD_some]
  congr 1
  rw [Bool.eq_iff_iff, hasI_iff, memL_cons, decide_eq_true_eq]
  simp only [memL_nil, or_false]
  omega
theorem get_some {o : Option Int} (h : o.isSome = true) : o = some (o.getD 0) := by cases o <;> simp_all
set_option maxHeartbeats 2000000 in
theorem term_Equal0 (a b : Term) (s : List Span) (h0 : a.parts.length = 0) (hb : b.parts.length ≤ 1000000000000) (hs : s.length ≤ 40000) : PC Try.prog 31 [termV a, termV b, spansV s] (spansV (eqT a b s)) := by
  have h0' : a.parts = [] := List.eq_nil_of_length_eq_zero h0
  have hM := span_Meet s [⟨0, 1114111⟩] (by omega) (by simp)
  rw [sym_meet] at hM
  have hsl2 : (symI s).length ≤ 40001 := by
    rw [← sym_meet]
    have h1 := meet_len (normI s) (normI [⟨0, 1114111⟩])
    have h2 := normI_len s
    have h3 := normI_len [(⟨0, 1114111⟩ : Span)]
    simp only [List.length_singleton] at h3
    omega
  have hG := term_gather (symI s) 65 [.cptr (termV a), .cptr (termV b)] (by simp [pureL, AV.pure, pure_parts, pure_spans]) (eqP a b) (by omega) (by rw [sym_norm]; exact symI_syms s) (fun x h1 h2 => eq_fun1 a b x (by omega) hb h1 h2)
  rw [sym_norm] at hG
  have hv := term_Value a [0] (by omega) (by simp) (by simp)
  have hP := term_Pre b (symI s) [⟨(valueT a [0]).getD 0, (valueT a [0]).getD 0⟩] hb (by omega) (by simp)
  refine pc_w' c_term_Equal ?_
  unfold B_term_Equal
  (repeat' (first | (simp (disch := omega) only [push_cast, ↓zz, seval, h0]) | (with_reducible refine And.intro ?_ ?_) | (with_reducible refine condW_split ?_ ?_ <;> intro hc <;> (try simp only [push_cast] at hc)) | (with_reducible refine guardW_split ?_ ?_ <;> intro hc <;> (try simp only [push_cast] at hc)) | ((with_reducible first | refine eK term_symbols ?_ | refine eQ term_symbols ?_ | refine eG term_symbols ?_)) | ((with_reducible first | refine eK hM ?_ | refine eQ hM ?_ | refine eG hM ?_)) | ((with_reducible first | refine eK hv ?_ | refine eQ hv ?_ | refine eG hv ?_)) | ((with_reducible first | refine eK hG ?_ | refine eQ hG ?_ | refine eG hG ?_)) | ((with_reducible first | refine eK hP ?_ | refine eQ hP ?_ | refine eG hP ?_)) | ((with_reducible first | refine cK term_symbols ?_ | refine cQ term_symbols ?_ | refine cG term_symbols ?_); (simp (disch := omega) only [push_cast, ↓zz, seval, h0]); (fail_if_success (with_reducible change False))) | ((with_reducible first | refine cK hM ?_ | refine cQ hM ?_ | refine cG hM ?_); (simp (disch := omega) only [push_cast, ↓zz, seval, h0]); (fail_if_success (with_reducible change False))) | ((with_reducible first | refine cK hv ?_ | refine cQ hv ?_ | refine cG hv ?_); (simp (disch := omega) only [push_cast, ↓zz, seval, h0]); (fail_if_success (with_reducible change False))) | ((with_reducible first | refine cK hG ?_ | refine cQ hG ?_ | refine cG hG ?_); (simp (disch := omega) only [push_cast, ↓zz, seval, h0]); (fail_if_success (with_reducible change False))) | ((with_reducible first | refine cK hP ?_ | refine cQ hP ?_ | refine cG hP ?_); (simp (disch := omega) only [push_cast, ↓zz, seval, h0]); (fail_if_success (with_reducible change False))) | omega | (with_reducible intro _)))
  all_goals first
    | rfl
    | (refine eq_nil fun x hx => ?_
       rw [eqP, value_none h0' hx, ‹(valueT a [0]).isSome = false›]; rfl)
    | (have hvv := get_some ‹(valueT a [0]).isSome = true›
       rw [show preT b (symI s) [⟨(valueT a [0]).getD 0, (valueT a [0]).getD 0⟩] = preT b s [⟨(valueT a [0]).getD 0, (valueT a [0]).getD 0⟩] by rw [preT, preT, sym_sym], eq_const h0' hvv (by omega)]; done)
    | trace_state
theorem eqT_comm (a b : Term) (s : List Span) : eqT a b s = eqT b a s := by rw [eqT, eqT, eq_comm']
theorem eqT_sym (a b : Term) (s : List Span) : eqT a b (symI s) = eqT a b s := by rw [eqT, eqT, sym_sym]
theorem eq_same {a b : Term} {s : List Span} (hab : a = b) (ha : numbersB a = true) : preT a s [⟨-1073741824, 1073741824⟩] = eqT a b s := by
  subst hab
  refine gather_ext (symI_spec s).1 fun x hx => ?_
  rw [preP, eqP]
  cases hv : valueT a [x] with
  | none => rfl
  | some v =>
    obtain ⟨_, u, _, h2, h3, rfl⟩ := value_some hv
    simp only [numbersB, Bool.and_eq_true] at ha
    have hb := small_bd ha.1.1.1
    obtain ⟨g1, g2⟩ := valB_spec h2
    have := valP_small g1 (x := u) (by omega)
    simp only [Option.isSome_some, Option.getD_some, Bool.true_and, decide_true]
    rw [hasI_iff, memL_cons, wr_in (by omega)]
    simp only [memL_nil, or_false]
    omega
theorem eq_plain {a b : Term} {s : List Span} (hp : a.parts = b.parts) (hl : a.parts.length = 1) (hw : nth a.parts 0 = ⟨0, 0, 21, 0⟩) (ha : plainB a = true) (hb : plainB b = true) (na : numbersB a = true) (nb : numbersB b = true) (hne : ¬ (a.sum = b.sum ∧ a.base = b.base)) : eqT a b s = [] := by
  have hpa : a.parts = [⟨0, 0, 21, 0⟩] := by
    match hq : a.parts, hl with
    | [p], _ => rw [hq] at hw; simp only [nth, List.getD_cons_zero] at hw; rw [hw]
  obtain ⟨a1, a2⟩ := plain_spec ha
  obtain ⟨b1, b2⟩ := plain_spec hb
  simp only [numbersB, Bool.and_eq_true] at na nb
  refine eq_nil fun x hx => ?_
  have hr : rightB ⟨0, 0, 21, 0⟩ 1 = true := by decide
  have w0 := whole_val (p := ⟨0, 0, 21, 0⟩) (x := x) (by decide) (by omega)
  have v1 := value_one hpa hr na.1.2 na.1.1.2 na.1.1.1 hx
  have v2 := value_one (hp ▸ hpa) hr nb.1.2 nb.1.1.2 nb.1.1.1 hx
  rw [w0.2.2] at v1 v2
  rw [eqP, v1, v2]
  by_cases h1 : 0 ≤ a.sum + x ∧ a.sum + x ≤ 1114111
  · by_cases h2 : 0 ≤ b.sum + x ∧ b.sum + x ≤ 1114111
    · rw [if_pos h1, if_pos h2, (whole_val a2 (x := a.sum + x) (by omega)).2.2, (whole_val b2 (x := b.sum + x) (by omega)).2.2]
      simp only [Option.isSome_some, Option.getD_some, Bool.true_and, decide_eq_false_iff_not]
      omega
    · rw [if_neg h2]; simp
  · rw [if_neg h1]; rfl
set_option maxHeartbeats 4000000 in
theorem term_Equal (a b : Term) (s : List Span) (ha : a.parts.length ≤ 100000000000) (hb : b.parts.length ≤ 100000000000) (hs : s.length ≤ 30000) : PC Try.prog 31 [termV a, termV b, spansV s] (spansV (eqT a b s)) := by
  by_cases h0 : a.parts.length = 0
  · exact term_Equal0 a b s h0 (by omega) (by omega)
  have hM := span_Meet s [⟨0, 1114111⟩] (by omega) (by simp)
  rw [sym_meet] at hM
  have hsl2 : (symI s).length ≤ 30001 := by
    rw [← sym_meet]
    have h1 := meet_len (normI s) (normI [⟨0, 1114111⟩])
    have h2 := normI_len s
    have h3 := normI_len [(⟨0, 1114111⟩ : Span)]
    simp only [List.length_singleton] at h3
    omega
  have h0i : ¬ (a.parts.length : Int) = 0 := by omega
  by_cases hb0 : b.parts.length = 0
  · have hE := term_Equal0 b a (symI s) hb0 (by omega) (by omega)
    rw [eqT_comm, eqT_sym] at hE
    refine pc_w' c_term_Equal ?_
    unfold B_term_Equal
    (repeat' (first | (simp (disch := omega) only [push_cast, ↓zz, seval, h0i, hb0]) | (with_reducible refine And.intro ?_ ?_) | (with_reducible refine condW_split ?_ ?_ <;> intro hc <;> (try simp only [push_cast] at hc)) | (with_reducible refine guardW_split ?_ ?_ <;> intro hc <;> (try simp only [push_cast] at hc)) | ((with_reducible first | refine eK term_symbols ?_ | refine eQ term_symbols ?_ | refine eG term_symbols ?_)) | ((with_reducible first | refine eK hM ?_ | refine eQ hM ?_ | refine eG hM ?_)) | ((with_reducible first | refine eK hE ?_ | refine eQ hE ?_ | refine eG hE ?_)) | ((with_reducible first | refine cK term_symbols ?_ | refine cQ term_symbols ?_ | refine cG term_symbols ?_); (simp (disch := omega) only [push_cast, ↓zz, seval, h0i, hb0]); (fail_if_success (with_reducible change False))) | ((with_reducible first | refine cK hM ?_ | refine cQ hM ?_ | refine cG hM ?_); (simp (disch := omega) only [push_cast, ↓zz, seval, h0i, hb0]); (fail_if_success (with_reducible change False))) | ((with_reducible first | refine cK hE ?_ | refine cQ hE ?_ | refine cG hE ?_); (simp (disch := omega) only [push_cast, ↓zz, seval, h0i, hb0]); (fail_if_success (with_reducible change False))) | omega | (with_reducible intro _)))
  have hb0i : ¬ (b.parts.length : Int) = 0 := by omega
  have hG := term_gather (symI s) 68 [.cptr (termV a), .cptr (termV b)] (by simp [pureL, AV.pure, pure_parts, pure_spans]) (eqP a b) (by omega) (by rw [sym_norm]; exact symI_syms s) (fun x h1 h2 => eq_fun2 a b x (by omega) (by omega) h1 h2)
  rw [sym_norm] at hG
  have hP := term_Pre a (symI s) [⟨-1073741824, 1073741824⟩] (by omega) (by omega) (by simp)
  refine pc_w' c_term_Equal ?_
  unfold B_term_Equal
  (repeat' (first | (simp (disch := omega) only [push_cast, ↓zz, seval, h0i, hb0i]) | (with_reducible refine And.intro ?_ ?_) | (with_reducible refine condW_split ?_ ?_ <;> intro hc <;> (try simp only [push_cast] at hc)) | (with_reducible refine guardW_split ?_ ?_ <;> intro hc <;> (try simp only [push_cast] at hc)) | ((with_reducible first | refine eK term_symbols ?_ | refine eQ term_symbols ?_ | refine eG term_symbols ?_)) | ((with_reducible first | refine eK hM ?_ | refine eQ hM ?_ | refine eG hM ?_)) | ((with_reducible first | refine eK hP ?_ | refine eQ hP ?_ | refine eG hP ?_)) | ((with_reducible first | refine eK hG ?_ | refine eQ hG ?_ | refine eG hG ?_)) | (have q_ := term_outer a; (with_reducible first | refine eK q_ ?_ | refine eQ q_ ?_ | refine eG q_ ?_); clear q_) | (have q_ := term_outer b; (with_reducible first | refine eK q_ ?_ | refine eQ q_ ?_ | refine eG q_ ?_); clear q_) | (have q_ := slices_Equal a.parts b.parts (by omega); (with_reducible first | refine eK q_ ?_ | refine eQ q_ ?_ | refine eG q_ ?_); clear q_) | (have q_ := term_numbers a (by omega); (with_reducible first | refine eK q_ ?_ | refine eQ q_ ?_ | refine eG q_ ?_); clear q_) | (have q_ := term_numbers b (by omega); (with_reducible first | refine eK q_ ?_ | refine eQ q_ ?_ | refine eG q_ ?_); clear q_) | (have q_ := term_plain a; (with_reducible first | refine eK q_ ?_ | refine eQ q_ ?_ | refine eG q_ ?_); clear q_) | (have q_ := term_plain b; (with_reducible first | refine eK q_ ?_ | refine eQ q_ ?_ | refine eG q_ ?_); clear q_) | (have q_ := part_Whole 0; (with_reducible first | refine eK q_ ?_ | refine eQ q_ ?_ | refine eG q_ ?_); clear q_) | ((with_reducible first | refine cK term_symbols ?_ | refine cQ term_symbols ?_ | refine cG term_symbols ?_); (simp (disch := omega) only [push_cast, ↓zz, seval, h0i, hb0i]); (fail_if_success (with_reducible change False))) | ((with_reducible first | refine cK hM ?_ | refine cQ hM ?_ | refine cG hM ?_); (simp (disch := omega) only [push_cast, ↓zz, seval, h0i, hb0i]); (fail_if_success (with_reducible change False))) | ((with_reducible first | refine cK hP ?_ | refine cQ hP ?_ | refine cG hP ?_); (simp (disch := omega) only [push_cast, ↓zz, seval, h0i, hb0i]); (fail_if_success (with_reducible change False))) | ((with_reducible first | refine cK hG ?_ | refine cQ hG ?_ | refine cG hG ?_); (simp (disch := omega) only [push_cast, ↓zz, seval, h0i, hb0i]); (fail_if_success (with_reducible change False))) | (have q_ := term_outer a; (with_reducible first | refine cK q_ ?_ | refine cQ q_ ?_ | refine cG q_ ?_); clear q_; (simp (disch := omega) only [push_cast, ↓zz, seval, h0i, hb0i]); (fail_if_success (with_reducible change False)); (repeat' (first | (with_reducible refine And.intro ?_ ?_) | omega)); (fail_if_success (any_goals (with_reducible change @Eq (List AV) _ _)))) | (have q_ := term_outer b; (with_reducible first | refine cK q_ ?_ | refine cQ q_ ?_ | refine cG q_ ?_); clear q_; (simp (disch := omega) only [push_cast, ↓zz, seval, h0i, hb0i]); (fail_if_success (with_reducible change False)); (repeat' (first | (with_reducible refine And.intro ?_ ?_) | omega)); (fail_if_success (any_goals (with_reducible change @Eq (List AV) _ _)))) | (have q_ := slices_Equal a.parts b.parts (by omega); (with_reducible first | refine cK q_ ?_ | refine cQ q_ ?_ | refine cG q_ ?_); clear q_; (simp (disch := omega) only [push_cast, ↓zz, seval, h0i, hb0i]); (fail_if_success (with_reducible change False))) | (have q_ := term_numbers a (by omega); (with_reducible first | refine cK q_ ?_ | refine cQ q_ ?_ | refine cG q_ ?_); clear q_; (simp (disch := omega) only [push_cast, ↓zz, seval, h0i, hb0i]); (fail_if_success (with_reducible change False)); (repeat' (first | (with_reducible refine And.intro ?_ ?_) | omega)); (fail_if_success (any_goals (with_reducible change @Eq (List AV) _ _)))) | (have q_ := term_numbers b (by omega); (with_reducible first | refine cK q_ ?_ | refine cQ q_ ?_ | refine cG q_ ?_); clear q_; (simp (disch := omega) only [push_cast, ↓zz, seval, h0i, hb0i]); (fail_if_success (with_reducible change False)); (repeat' (first | (with_reducible refine And.intro ?_ ?_) | omega)); (fail_if_success (any_goals (with_reducible change @Eq (List AV) _ _)))) | (have q_ := term_plain a; (with_reducible first | refine cK q_ ?_ | refine cQ q_ ?_ | refine cG q_ ?_); clear q_; (simp (disch := omega) only [push_cast, ↓zz, seval, h0i, hb0i]); (fail_if_success (with_reducible change False)); (repeat' (first | (with_reducible refine And.intro ?_ ?_) | omega)); (fail_if_success (any_goals (with_reducible change @Eq (List AV) _ _)))) | (have q_ := term_plain b; (with_reducible first | refine cK q_ ?_ | refine cQ q_ ?_ | refine cG q_ ?_); clear q_; (simp (disch := omega) only [push_cast, ↓zz, seval, h0i, hb0i]); (fail_if_success (with_reducible change False)); (repeat' (first | (with_reducible refine And.intro ?_ ?_) | omega)); (fail_if_success (any_goals (with_reducible change @Eq (List AV) _ _)))) | (have q_ := part_Whole 0; (with_reducible first | refine cK q_ ?_ | refine cQ q_ ?_ | refine cG q_ ?_); clear q_; (simp (disch := omega) only [push_cast, ↓zz, seval, h0i, hb0i]); (fail_if_success (with_reducible change False))) | omega | (with_reducible intro _)))
  all_goals first
    | rfl
    | (have e1 : preT a (symI s) [⟨-1073741824, 1073741824⟩] = preT a s [⟨-1073741824, 1073741824⟩] := by rw [preT, preT, sym_sym]
       have hab : a = b := by cases a; cases b; simp_all
       rw [e1, eq_same hab ‹_›]; done)
    | (refine eq_plain ‹a.parts = b.parts› (by omega) ?_ ‹plainB a = true› ‹plainB b = true› ‹numbersB a = true› ‹numbersB b = true› (fun h => absurd h.2 (by first | assumption | exact fun _ => absurd h.1 (by assumption)))
       have h := hc
       rw [show (decide ((nth a.parts 0).at_ = 0) && (decide ((nth a.parts 0).drop = 0) && (decide ((nth a.parts 0).take = 21) && decide ((nth a.parts 0).up = 0)))) = decide (nth a.parts 0 = ⟨0, 0, 21, 0⟩) from part_eq_iff _ ⟨0, 0, 21, 0⟩] at h
       exact of_decide_eq_true h)
    | trace_state
end Go.Proofs.Ytdjbcenfgceejaa
set_option linter.unusedSimpArgs false
set_option linter.unusedVariables false
namespace Go.Proofs.Ytdjbcenfgceejaa
open Abs
theorem ref04_Equal (a b : Term) (s : List Span) (ha : a.parts.length ≤ 1000000000000) (hb : b.parts.length ≤ 1000000000000) (hs : s.length ≤ 10000000000) :
    PC Try.prog 32 [termV a, termV b, spansV s] (spansV (eqT a b s)) := by
  refine pc_w' c_ref04_Equal ?_
  unfold B_ref04_Equal
  (repeat' (first | (simp (disch := omega) only [push_cast, ↓zz, seval]) | (with_reducible refine And.intro ?_ ?_) | (with_reducible refine condW_split ?_ ?_ <;> intro hc <;> (try simp only [push_cast] at hc)) | (with_reducible refine guardW_split ?_ ?_ <;> intro hc <;> (try simp only [push_cast] at hc)) | (have q_ := ref04_Symbols s hs; (with_reducible first | refine eK q_ ?_ | refine eQ q_ ?_ | refine eG q_ ?_); clear q_) | (have q_ := ref04_Symbols s hs; (with_reducible first | refine cK q_ ?_ | refine cQ q_ ?_ | refine cG q_ ?_); clear q_; (simp (disch := omega) only [push_cast, ↓zz, seval]); (fail_if_success (with_reducible change False))) | omega | (with_reducible intro _)))
  have hsy := symI_syms s
  have hlen := hsy.len
  rw [eqT, gather_eq]
  have hp : ∀ out x, gF (eqP a b) out x = if eqP a b x then addS out ⟨x, x⟩ else out := fun _ _ => rfl
  have hgl := gF_len (eqP a b)
  generalize gF (eqP a b) = F at *
  generalize symI s = l at *
  refine LoopK_T (T_loopR (fun (s : Nat × List Span) => s.1 ≤ l.length ∧ (∀ t ∈ l.drop s.1, (s.2.length : Int) ≤ t.lo) ∧ s.2.length ≤ 1114112 ∧ (numsI l).foldl F [] = (numsI (l.drop s.1)).foldl F s.2) (fun s => l.length - s.1)
    (fun s => [(3, .ptr 0 1 0 0), (4, .ptr 1 1 0 0), (7, spansV l), (8, .ref 2 1 0 s.2.length), (9, .int .i64 s.1)]) (fun s => [⟨6, 1, true, [termV a]⟩, ⟨6, 1, true, [termV b]⟩, ⟨2, 1, false, s.2.map spanV⟩]) (fun env _ => [srcOf 6 (env 3), srcOf 6 (env 4), srcOf 2 (env 8)]) (0, []) ⟨by simp, fun t ht => by have := hsy.2 t (by simpa using ht); simp; omega, by simp, by simp⟩ ?_ ?_)
  · (repeat' (first | (simp (disch := omega) only [push_cast, ↓zz, seval]) | (with_reducible refine And.intro ?_ ?_) | (with_reducible refine condW_split ?_ ?_ <;> intro hc <;> (try simp only [push_cast] at hc)) | (with_reducible refine guardW_split ?_ ?_ <;> intro hc <;> (try simp only [push_cast] at hc)) | omega | (with_reducible intro _)))
  rintro ⟨k, out⟩ ⟨h1, h2, h3, h4⟩
  simp only at h1 h2 h3 h4
  rcases Nat.lt_or_ge k l.length with hk | hk
  · have hx := hsy.2 _ (nth_mem hk)
    have hnx : ∀ t ∈ l.drop (k + 1), (nth l k).hi + 1 < t.lo := by
      have := List.Pairwise.sublist (List.drop_sublist k l) hsy.1.2
      rw [drop_at hk, List.pairwise_cons] at this
      exact this.1
    have h2' := h2 (nth l k) (by rw [drop_at hk]; simp)
    rw [drop_at hk, numsI_cons, List.foldl_append] at h4
    refine W_T ?_
    (repeat' (first | (simp (disch := omega) only [push_cast, ↓zz, seval]) | (with_reducible refine And.intro ?_ ?_) | (with_reducible refine condW_split ?_ ?_ <;> intro hc <;> (try simp only [push_cast] at hc)) | (with_reducible refine guardW_split ?_ ?_ <;> intro hc <;> (try simp only [push_cast] at hc)) | omega | (with_reducible intro _)))
    refine LoopK_T (T_loopR (fun (s : Int × List Span) => (nth l k).lo ≤ s.1 ∧ s.1 ≤ (nth l k).hi + 1 ∧ (s.2.length : Int) ≤ s.1 ∧ (numsI l).foldl F [] = (numsI (l.drop (k + 1))).foldl F ((numsS s.1 ((nth l k).hi + 1 - s.1).toNat).foldl F s.2)) (fun s => ((nth l k).hi + 1 - s.1).toNat)
      (fun s => [(3, .ptr 0 1 0 0), (4, .ptr 1 1 0 0), (7, spansV l), (8, .ref 2 1 0 s.2.length), (9, .int .i64 k), (10, .int .i64 s.1)]) (fun s => [⟨6, 1, true, [termV a]⟩, ⟨6, 1, true, [termV b]⟩, ⟨2, 1, false, s.2.map spanV⟩]) (fun env _ => [srcOf 6 (env 3), srcOf 6 (env 4), srcOf 2 (env 8)]) ((nth l k).lo, out) ⟨by simp, by simp only; omega, by simpa using h2', h4⟩ ?_ ?_)
    · (repeat' (first | (simp (disch := omega) only [push_cast, ↓zz, seval]) | (with_reducible refine And.intro ?_ ?_) | (with_reducible refine condW_split ?_ ?_ <;> intro hc <;> (try simp only [push_cast] at hc)) | (with_reducible refine guardW_split ?_ ?_ <;> intro hc <;> (try simp only [push_cast] at hc)) | omega | (with_reducible intro _)))
    rintro ⟨x, o⟩ ⟨g1, g2, g3, g4⟩
    simp only at g1 g2 g3 g4
    rcases Int.lt_or_le (nth l k).hi x with hlt | hle
    · rw [nums_end hlt, List.foldl_nil] at g4
      refine W_T ?_
      (repeat' (first | (simp (disch := omega) only [push_cast, ↓zz, seval]) | (with_reducible refine And.intro ?_ ?_) | (with_reducible refine condW_split ?_ ?_ <;> intro hc <;> (try simp only [push_cast] at hc)) | (with_reducible refine guardW_split ?_ ?_ <;> intro hc <;> (try simp only [push_cast] at hc)) | omega | (with_reducible intro _)))
      exact ⟨(k + 1, o), ⟨⟨rfl, by simp⟩, leSL_refl _ _⟩, ⟨by simp only; omega, fun t ht => by have := hnx t ht; simp only; omega, by simp only; omega, g4⟩, by simp only; omega⟩
    · rw [nums_at hle, List.foldl_cons, hp, eqP] at g4
      have hv := ref_Value a [x] (by omega) (by simp) (by simp; omega)
      have hv2 := ref_Value b [x] (by omega) (by simp) (by simp; omega)
      have hw : IntKind.i32.wrap x = x := IntWalk.i32_in _ (by omega)
      refine W_T ?_
      (repeat' (first | (simp (disch := omega) only [push_cast, ↓zz, seval, hw]) | (with_reducible refine And.intro ?_ ?_) | (with_reducible refine condW_split ?_ ?_ <;> intro hc <;> (try simp only [push_cast] at hc)) | (with_reducible refine guardW_split ?_ ?_ <;> intro hc <;> (try simp only [push_cast] at hc)) | ((with_reducible first | refine eK hv ?_ | refine eQ hv ?_ | refine eG hv ?_)) | ((with_reducible first | refine eK hv2 ?_ | refine eQ hv2 ?_ | refine eG hv2 ?_)) | ((with_reducible first | refine cK hv ?_ | refine cQ hv ?_ | refine cG hv ?_); (simp (disch := omega) only [push_cast, ↓zz, seval, hw]); (fail_if_success (with_reducible change False)); (repeat' (first | (with_reducible refine And.intro ?_ ?_) | omega)); (fail_if_success (any_goals (with_reducible change @Eq (List AV) _ _)))) | ((with_reducible first | refine cK hv2 ?_ | refine cQ hv2 ?_ | refine cG hv2 ?_); (simp (disch := omega) only [push_cast, ↓zz, seval, hw]); (fail_if_success (with_reducible change False)); (repeat' (first | (with_reducible refine And.intro ?_ ?_) | omega)); (fail_if_success (any_goals (with_reducible change @Eq (List AV) _ _)))) | omega | (with_reducible intro _)))
      · rw [if_pos (by simp [*])] at g4
        have hal := addS_len o ⟨x, x⟩
        (refine at_call [2] (ref04_add 1 o x (by omega) (by omega)) (by decide) (by simp) (by (simp (disch := omega) only [push_cast, ↓zz, seval, termV])) (by (simp (disch := omega) only [push_cast, ↓zz, seval, termV])) (by (simp (disch := omega) only [push_cast, ↓zz, seval, termV])) (by (simp (disch := omega) only [push_cast, ↓zz, seval, List.mem_cons, List.not_mem_nil, or_false, forall_eq_or_imp, forall_eq, List.forall_mem_nil, termV])) ?_)
        rintro y H' ⟨v', rfl, rfl⟩
        refine ⟨_, rfl, by simp, ?_⟩
        (repeat' (first | (simp (disch := omega) only [push_cast, ↓zz, seval]) | (with_reducible refine And.intro ?_ ?_) | (with_reducible refine condW_split ?_ ?_ <;> intro hc <;> (try simp only [push_cast] at hc)) | (with_reducible refine guardW_split ?_ ?_ <;> intro hc <;> (try simp only [push_cast] at hc)) | omega | (with_reducible intro _)))
        exact ⟨(x + 1, addS o ⟨x, x⟩), ⟨⟨rfl, rfl⟩, leSL_refl _ _⟩, ⟨by simp only; omega, by simp only; omega, by simp only; omega, g4⟩, by simp only; omega⟩
      all_goals
        rw [if_neg (by simp [*])] at g4
        exact ⟨(x + 1, o), ⟨⟨rfl, rfl⟩, leSL_refl _ _⟩, ⟨by simp only; omega, by simp only; omega, by simp only; omega, g4⟩, by simp only; omega⟩
  · rw [List.drop_of_length_le hk] at h4
    rw [h4]
    refine W_T ?_
    (repeat' (first | (simp (disch := omega) only [push_cast, ↓zz, seval]) | (with_reducible refine And.intro ?_ ?_) | (with_reducible refine condW_split ?_ ?_ <;> intro hc <;> (try simp only [push_cast] at hc)) | (with_reducible refine guardW_split ?_ ?_ <;> intro hc <;> (try simp only [push_cast] at hc)) | omega | (with_reducible intro _)))
    rfl
end Go.Proofs.Ytdjbcenfgceejaa
set_option linter.unusedSimpArgs false
set_option linter.unusedVariables false
namespace Go.Proofs.Ytdjbcenfgceejaa
open Abs
theorem great2 {t : Term} {s g : List Span} (h : greatB t [s, g] = false) : t.parts.length ≤ 20 ∧ s.length ≤ 50 ∧ g.length ≤ 50 := by
  simp only [greatB, List.any_cons, List.any_nil, Bool.or_eq_false_iff, decide_eq_false_iff_not] at h
  omega
theorem great1 {t : Term} {s : List Span} (h : greatB t [s] = false) : t.parts.length ≤ 20 ∧ s.length ≤ 50 := by
  simp only [greatB, List.any_cons, List.any_nil, Bool.or_eq_false_iff, decide_eq_false_iff_not] at h
  omega
theorem preT_eq (t : Term) (s g : List Span) : gatherL (fun x => (valueT t [x]).isSome && hasI g ((valueT t [x]).getD 0)) (numsI (symI s)) = preT t s g := rfl
theorem law_TermPres (t : Term) (s g : List Span) (ht : termOk t) : PC Try.prog 7 [termV t, spansV s, spansV g] (.bool true) := by
  have hsl := (symI_syms s).len
  have hG := law_great t [s, g]
  cases hg : greatB t [s, g] with
  | true =>
    rw [hg] at hG
    refine pc_w' c_law04_TermPres ?_
    unfold B_law04_TermPres
    (repeat' (first | (simp (disch := omega) only [push_cast, ↓zz, seval, guardsV, List.map_cons, List.map_nil]) | (with_reducible refine And.intro ?_ ?_) | (with_reducible refine condW_split ?_ ?_ <;> intro hc <;> (try simp only [push_cast] at hc)) | (with_reducible refine guardW_split ?_ ?_ <;> intro hc <;> (try simp only [push_cast] at hc)) | ((with_reducible first | refine eK hG ?_ | refine eQ hG ?_ | refine eG hG ?_)) | ((with_reducible first | refine eK law_awake ?_ | refine eQ law_awake ?_ | refine eG law_awake ?_)) | ((with_reducible first | refine cK hG ?_ | refine cQ hG ?_ | refine cG hG ?_); (simp (disch := omega) only [push_cast, ↓zz, seval, guardsV, List.map_cons, List.map_nil]); (fail_if_success (with_reducible change False))) | ((with_reducible first | refine cK law_awake ?_ | refine cQ law_awake ?_ | refine cG law_awake ?_); (simp (disch := omega) only [push_cast, ↓zz, seval, guardsV, List.map_cons, List.map_nil]); (fail_if_success (with_reducible change False))) | omega | (with_reducible intro _)))
  | false =>
    rw [hg] at hG
    obtain ⟨g1, g2, g3⟩ := great2 hg
    have hq : (preT t s g).length ≤ 1114112 := by
      obtain ⟨h1, h2⟩ := gather_spec (preP t g) (symI_spec s).1
      exact (syms_of h1 fun v hv => (((symI_spec s).2 v).1 ((h2 v).1 hv).1).1).len
    have hR := ref04_Pre t s g (by omega) (by omega) (by omega)
    rw [preT_eq] at hR
    have hS := ref01_Same (preT t s g) (preT t s g) (by omega)
    rw [decide_eq_true rfl] at hS
    refine pc_w' c_law04_TermPres ?_
    unfold B_law04_TermPres
    (repeat' (first | (simp (disch := omega) only [push_cast, ↓zz, seval, guardsV, List.map_cons, List.map_nil]) | (with_reducible refine And.intro ?_ ?_) | (with_reducible refine condW_split ?_ ?_ <;> intro hc <;> (try simp only [push_cast] at hc)) | (with_reducible refine guardW_split ?_ ?_ <;> intro hc <;> (try simp only [push_cast] at hc)) | ((with_reducible first | refine eK hG ?_ | refine eQ hG ?_ | refine eG hG ?_)) | ((with_reducible first | refine eK law_awake ?_ | refine eQ law_awake ?_ | refine eG law_awake ?_)) | (have q_ := ref04_Symbols s (by omega); (with_reducible first | refine eK q_ ?_ | refine eQ q_ ?_ | refine eG q_ ?_); clear q_) | (have q_ := ref01_Count (symI s) (by omega); (with_reducible first | refine eK q_ ?_ | refine eQ q_ ?_ | refine eG q_ ?_); clear q_) | (have q_ := term_Pre t s g (by omega) (by omega) (by omega); (with_reducible first | refine eK q_ ?_ | refine eQ q_ ?_ | refine eG q_ ?_); clear q_) | ((with_reducible first | refine eK hR ?_ | refine eQ hR ?_ | refine eG hR ?_)) | ((with_reducible first | refine eK hS ?_ | refine eQ hS ?_ | refine eG hS ?_)) | ((with_reducible first | refine cK hG ?_ | refine cQ hG ?_ | refine cG hG ?_); (simp (disch := omega) only [push_cast, ↓zz, seval, guardsV, List.map_cons, List.map_nil]); (fail_if_success (with_reducible change False))) | ((with_reducible first | refine cK law_awake ?_ | refine cQ law_awake ?_ | refine cG law_awake ?_); (simp (disch := omega) only [push_cast, ↓zz, seval, guardsV, List.map_cons, List.map_nil]); (fail_if_success (with_reducible change False))) | (have q_ := ref04_Symbols s (by omega); (with_reducible first | refine cK q_ ?_ | refine cQ q_ ?_ | refine cG q_ ?_); clear q_; (simp (disch := omega) only [push_cast, ↓zz, seval, guardsV, List.map_cons, List.map_nil]); (fail_if_success (with_reducible change False))) | (have q_ := ref01_Count (symI s) (by omega); (with_reducible first | refine cK q_ ?_ | refine cQ q_ ?_ | refine cG q_ ?_); clear q_; (simp (disch := omega) only [push_cast, ↓zz, seval, guardsV, List.map_cons, List.map_nil]); (fail_if_success (with_reducible change False))) | (have q_ := term_Pre t s g (by omega) (by omega) (by omega); (with_reducible first | refine cK q_ ?_ | refine cQ q_ ?_ | refine cG q_ ?_); clear q_; (simp (disch := omega) only [push_cast, ↓zz, seval, guardsV, List.map_cons, List.map_nil]); (fail_if_success (with_reducible change False))) | ((with_reducible first | refine cK hR ?_ | refine cQ hR ?_ | refine cG hR ?_); (simp (disch := omega) only [push_cast, ↓zz, seval, guardsV, List.map_cons, List.map_nil]); (fail_if_success (with_reducible change False))) | ((with_reducible first | refine cK hS ?_ | refine cQ hS ?_ | refine cG hS ?_); (simp (disch := omega) only [push_cast, ↓zz, seval, guardsV, List.map_cons, List.map_nil]); (fail_if_success (with_reducible change False))) | omega | (with_reducible intro _)))
    all_goals trace_state
theorem law_TermEquals (a b : Term) (s : List Span) (ha : termOk a) (hb : termOk b) : PC Try.prog 8 [termV a, termV b, spansV s] (.bool true) := by
  have hsl := (symI_syms s).len
  have hG := law_great a [s]
  have hG2 := law_great0 b
  cases hg : greatB a [s] with
  | true =>
    rw [hg] at hG
    refine pc_w' c_law04_TermEquals ?_
    unfold B_law04_TermEquals
    (repeat' (first | (simp (disch := omega) only [push_cast, ↓zz, seval, guardsV, List.map_cons, List.map_nil]) | (with_reducible refine And.intro ?_ ?_) | (with_reducible refine condW_split ?_ ?_ <;> intro hc <;> (try simp only [push_cast] at hc)) | (with_reducible refine guardW_split ?_ ?_ <;> intro hc <;> (try simp only [push_cast] at hc)) | ((with_reducible first | refine eK hG ?_ | refine eQ hG ?_ | refine eG hG ?_)) | ((with_reducible first | refine eK law_awake ?_ | refine eQ law_awake ?_ | refine eG law_awake ?_)) | ((with_reducible first | refine cK hG ?_ | refine cQ hG ?_ | refine cG hG ?_); (simp (disch := omega) only [push_cast, ↓zz, seval, guardsV, List.map_cons, List.map_nil]); (fail_if_success (with_reducible change False))) | ((with_reducible first | refine cK law_awake ?_ | refine cQ law_awake ?_ | refine cG law_awake ?_); (simp (disch := omega) only [push_cast, ↓zz, seval, guardsV, List.map_cons, List.map_nil]); (fail_if_success (with_reducible change False))) | omega | (with_reducible intro _)))
  | false =>
    rw [hg] at hG
    obtain ⟨g1, g2⟩ := great1 hg
    have hq : (eqT a b s).length ≤ 1114112 := by
      obtain ⟨h1, h2⟩ := gather_spec (eqP a b) (symI_spec s).1
      exact (syms_of h1 fun v hv => (((symI_spec s).2 v).1 ((h2 v).1 hv).1).1).len
    have hS := ref01_Same (eqT a b s) (eqT a b s) (by omega)
    rw [decide_eq_true rfl] at hS
    refine pc_w' c_law04_TermEquals ?_
    unfold B_law04_TermEquals
    (repeat' (first | (simp (disch := omega) only [push_cast, ↓zz, seval, guardsV, List.map_cons, List.map_nil]) | (with_reducible refine And.intro ?_ ?_) | (with_reducible refine condW_split ?_ ?_ <;> intro hc <;> (try simp only [push_cast] at hc)) | (with_reducible refine guardW_split ?_ ?_ <;> intro hc <;> (try simp only [push_cast] at hc)) | ((with_reducible first | refine eK hG ?_ | refine eQ hG ?_ | refine eG hG ?_)) | ((with_reducible first | refine eK hG2 ?_ | refine eQ hG2 ?_ | refine eG hG2 ?_)) | ((with_reducible first | refine eK law_awake ?_ | refine eQ law_awake ?_ | refine eG law_awake ?_)) | (have q_ := ref04_Symbols s (by omega); (with_reducible first | refine eK q_ ?_ | refine eQ q_ ?_ | refine eG q_ ?_); clear q_) | (have q_ := ref01_Count (symI s) (by omega); (with_reducible first | refine eK q_ ?_ | refine eQ q_ ?_ | refine eG q_ ?_); clear q_) | (have q_ := term_Equal a b s (by omega) (by omega) (by omega); (with_reducible first | refine eK q_ ?_ | refine eQ q_ ?_ | refine eG q_ ?_); clear q_) | (have q_ := ref04_Equal a b s (by omega) (by omega) (by omega); (with_reducible first | refine eK q_ ?_ | refine eQ q_ ?_ | refine eG q_ ?_); clear q_) | ((with_reducible first | refine eK hS ?_ | refine eQ hS ?_ | refine eG hS ?_)) | ((with_reducible first | refine cK hG ?_ | refine cQ hG ?_ | refine cG hG ?_); (simp (disch := omega) only [push_cast, ↓zz, seval, guardsV, List.map_cons, List.map_nil]); (fail_if_success (with_reducible change False)); (repeat' (first | (with_reducible refine And.intro ?_ ?_) | omega)); (fail_if_success (any_goals (with_reducible change @Eq (List AV) _ _)))) | ((with_reducible first | refine cK hG2 ?_ | refine cQ hG2 ?_ | refine cG hG2 ?_); (simp (disch := omega) only [push_cast, ↓zz, seval, guardsV, List.map_cons, List.map_nil]); (fail_if_success (with_reducible change False)); (repeat' (first | (with_reducible refine And.intro ?_ ?_) | omega)); (fail_if_success (any_goals (with_reducible change @Eq (List AV) _ _)))) | ((with_reducible first | refine cK law_awake ?_ | refine cQ law_awake ?_ | refine cG law_awake ?_); (simp (disch := omega) only [push_cast, ↓zz, seval, guardsV, List.map_cons, List.map_nil]); (fail_if_success (with_reducible change False))) | (have q_ := ref04_Symbols s (by omega); (with_reducible first | refine cK q_ ?_ | refine cQ q_ ?_ | refine cG q_ ?_); clear q_; (simp (disch := omega) only [push_cast, ↓zz, seval, guardsV, List.map_cons, List.map_nil]); (fail_if_success (with_reducible change False))) | (have q_ := ref01_Count (symI s) (by omega); (with_reducible first | refine cK q_ ?_ | refine cQ q_ ?_ | refine cG q_ ?_); clear q_; (simp (disch := omega) only [push_cast, ↓zz, seval, guardsV, List.map_cons, List.map_nil]); (fail_if_success (with_reducible change False))) | (have q_ := term_Equal a b s (by omega) (by omega) (by omega); (with_reducible first | refine cK q_ ?_ | refine cQ q_ ?_ | refine cG q_ ?_); clear q_; (simp (disch := omega) only [push_cast, ↓zz, seval, guardsV, List.map_cons, List.map_nil]); (fail_if_success (with_reducible change False))) | (have q_ := ref04_Equal a b s (by omega) (by omega) (by omega); (with_reducible first | refine cK q_ ?_ | refine cQ q_ ?_ | refine cG q_ ?_); clear q_; (simp (disch := omega) only [push_cast, ↓zz, seval, guardsV, List.map_cons, List.map_nil]); (fail_if_success (with_reducible change False))) | ((with_reducible first | refine cK hS ?_ | refine cQ hS ?_ | refine cG hS ?_); (simp (disch := omega) only [push_cast, ↓zz, seval, guardsV, List.map_cons, List.map_nil]); (fail_if_success (with_reducible change False))) | omega | (with_reducible intro _)))
    all_goals trace_state
theorem has_pre (t : Term) (s g : List Span) (x : Int) : hasI (preT t s g) x = (hasI s x && preP t g x) := by
  obtain ⟨h1, h2⟩ := gather_spec (preP t g) (symI_spec s).1
  rw [Bool.eq_iff_iff, hasI_iff, Bool.and_eq_true, hasI_iff, show memL (preT t s g) x ↔ _ from h2 x, (symI_spec s).2 x]
  constructor
  · rintro ⟨a, b, ⟨⟨c, d⟩, e⟩⟩; exact ⟨⟨a, b, d⟩, e⟩
  · rintro ⟨⟨a, b, d⟩, e⟩
    refine ⟨a, b, ⟨?_, d⟩, e⟩
    rw [preP, Bool.and_eq_true] at e
    obtain ⟨v, hv⟩ := Option.isSome_iff_exists.1 e.1
    have := (value_some hv).1
    simpa [symB] using this
theorem has_eq (a b : Term) (s : List Span) (x : Int) : hasI (eqT a b s) x = (hasI s x && eqP a b x) := by
  obtain ⟨h1, h2⟩ := gather_spec (eqP a b) (symI_spec s).1
  rw [Bool.eq_iff_iff, hasI_iff, Bool.and_eq_true, hasI_iff, show memL (eqT a b s) x ↔ _ from h2 x, (symI_spec s).2 x]
  constructor
  · rintro ⟨a, b, ⟨⟨c, d⟩, e⟩⟩; exact ⟨⟨a, b, d⟩, e⟩
  · rintro ⟨⟨a, b, d⟩, e⟩
    refine ⟨a, b, ⟨?_, d⟩, e⟩
    rw [eqP, Bool.and_eq_true] at e
    obtain ⟨v, hv⟩ := Option.isSome_iff_exists.1 e.1
    have := (value_some hv).1
    simpa [symB] using this
set_option maxHeartbeats 2000000 in
theorem law_TermFar (a b : Term) (s g : List Span) (x : Int) (ha : termOk a) (hb : termOk b) (hx : -2147483648 ≤ x ∧ x ≤ 2147483647) : PC Try.prog 9 [termV a, termV b, spansV s, spansV g, .int .i32 x] (.bool true) := by
  have hG := law_great a [s, g]
  cases hg : greatB a [s, g] with
  | true =>
    rw [hg] at hG
    refine pc_w' c_law04_TermFar ?_
    unfold B_law04_TermFar
    (repeat' (first | (simp (disch := omega) only [push_cast, ↓zz, seval, guardsV, List.map_cons, List.map_nil]) | (with_reducible refine And.intro ?_ ?_) | (with_reducible refine condW_split ?_ ?_ <;> intro hc <;> (try simp only [push_cast] at hc)) | (with_reducible refine guardW_split ?_ ?_ <;> intro hc <;> (try simp only [push_cast] at hc)) | ((with_reducible first | refine eK hG ?_ | refine eQ hG ?_ | refine eG hG ?_)) | ((with_reducible first | refine eK law_awake ?_ | refine eQ law_awake ?_ | refine eG law_awake ?_)) | ((with_reducible first | refine cK hG ?_ | refine cQ hG ?_ | refine cG hG ?_); (simp (disch := omega) only [push_cast, ↓zz, seval, guardsV, List.map_cons, List.map_nil]); (fail_if_success (with_reducible change False))) | ((with_reducible first | refine cK law_awake ?_ | refine cQ law_awake ?_ | refine cG law_awake ?_); (simp (disch := omega) only [push_cast, ↓zz, seval, guardsV, List.map_cons, List.map_nil]); (fail_if_success (with_reducible change False))) | omega | (with_reducible intro _)))
  | false =>
    rw [hg] at hG
    obtain ⟨g1, g2, g3⟩ := great2 hg
    have hql : (preT a s g).length ≤ 1114112 := by
      obtain ⟨h1, h2⟩ := gather_spec (preP a g) (symI_spec s).1
      exact (syms_of h1 fun v hv => (((symI_spec s).2 v).1 ((h2 v).1 hv).1).1).len
    have hqe : (eqT a b s).length ≤ 1114112 := by
      obtain ⟨h1, h2⟩ := gather_spec (eqP a b) (symI_spec s).1
      exact (syms_of h1 fun v hv => (((symI_spec s).2 v).1 ((h2 v).1 hv).1).1).len
    have hbl := hb.2.1
    by_cases hb1 : b.parts.length ≤ 1
    · have hw : IntKind.i64.wrap x = x := IntWalk.i64_in _ (by omega)
      have hv := term_Value a [x] (by omega) (by simp) (by simp; omega)
      have hv2 := term_Value b [x] (by omega) (by simp) (by simp; omega)
      have hP := has_pre a s g x
      have hE := has_eq a b s x
      have k1 := span_Has (preT a s g) x (by omega)
      have k2 := span_Has (eqT a b s) x (by omega)
      rw [hP] at k1
      rw [hE] at k2
      refine pc_w' c_law04_TermFar ?_
      unfold B_law04_TermFar
      (repeat' (first | (simp (disch := omega) only [push_cast, ↓zz, seval, hw, guardsV, List.map_cons, List.map_nil]) | (with_reducible refine And.intro ?_ ?_) | (with_reducible refine condW_split ?_ ?_ <;> intro hc <;> (try simp only [push_cast] at hc)) | (with_reducible refine guardW_split ?_ ?_ <;> intro hc <;> (try simp only [push_cast] at hc)) | ((with_reducible first | refine eK hG ?_ | refine eQ hG ?_ | refine eG hG ?_)) | ((with_reducible first | refine eK law_awake ?_ | refine eQ law_awake ?_ | refine eG law_awake ?_)) | ((with_reducible first | refine eK hv ?_ | refine eQ hv ?_ | refine eG hv ?_)) | ((with_reducible first | refine eK hv2 ?_ | refine eQ hv2 ?_ | refine eG hv2 ?_)) | (have q_ := span_Has s x (by omega); (with_reducible first | refine eK q_ ?_ | refine eQ q_ ?_ | refine eG q_ ?_); clear q_) | (have q_ := term_Pre a s g (by omega) (by omega) (by omega); (with_reducible first | refine eK q_ ?_ | refine eQ q_ ?_ | refine eG q_ ?_); clear q_) | ((with_reducible first | refine eK k1 ?_ | refine eQ k1 ?_ | refine eG k1 ?_)) | (have q_ := term_Equal a b s (by omega) (by omega) (by omega); (with_reducible first | refine eK q_ ?_ | refine eQ q_ ?_ | refine eG q_ ?_); clear q_) | ((with_reducible first | refine eK k2 ?_ | refine eQ k2 ?_ | refine eG k2 ?_)) | (have q_ := span_Has g ((valueT a [x]).getD 0) (by omega); (with_reducible first | refine eK q_ ?_ | refine eQ q_ ?_ | refine eG q_ ?_); clear q_) | ((with_reducible first | refine cK hG ?_ | refine cQ hG ?_ | refine cG hG ?_); (simp (disch := omega) only [push_cast, ↓zz, seval, hw, guardsV, List.map_cons, List.map_nil]); (fail_if_success (with_reducible change False)); (repeat' (first | (with_reducible refine And.intro ?_ ?_) | omega)); (fail_if_success (any_goals (with_reducible change @Eq (List AV) _ _)))) | ((with_reducible first | refine cK law_awake ?_ | refine cQ law_awake ?_ | refine cG law_awake ?_); (simp (disch := omega) only [push_cast, ↓zz, seval, hw, guardsV, List.map_cons, List.map_nil]); (fail_if_success (with_reducible change False))) | ((with_reducible first | refine cK hv ?_ | refine cQ hv ?_ | refine cG hv ?_); (simp (disch := omega) only [push_cast, ↓zz, seval, hw, guardsV, List.map_cons, List.map_nil]); (fail_if_success (with_reducible change False)); (repeat' (first | (with_reducible refine And.intro ?_ ?_) | omega)); (fail_if_success (any_goals (with_reducible change @Eq (List AV) _ _)))) | ((with_reducible first | refine cK hv2 ?_ | refine cQ hv2 ?_ | refine cG hv2 ?_); (simp (disch := omega) only [push_cast, ↓zz, seval, hw, guardsV, List.map_cons, List.map_nil]); (fail_if_success (with_reducible change False)); (repeat' (first | (with_reducible refine And.intro ?_ ?_) | omega)); (fail_if_success (any_goals (with_reducible change @Eq (List AV) _ _)))) | (have q_ := span_Has s x (by omega); (with_reducible first | refine cK q_ ?_ | refine cQ q_ ?_ | refine cG q_ ?_); clear q_; (simp (disch := omega) only [push_cast, ↓zz, seval, hw, guardsV, List.map_cons, List.map_nil]); (fail_if_success (with_reducible change False)); (repeat' (first | (with_reducible refine And.intro ?_ ?_) | omega)); (fail_if_success (any_goals (with_reducible change @Eq (List AV) _ _)))) | (have q_ := term_Pre a s g (by omega) (by omega) (by omega); (with_reducible first | refine cK q_ ?_ | refine cQ q_ ?_ | refine cG q_ ?_); clear q_; (simp (disch := omega) only [push_cast, ↓zz, seval, hw, guardsV, List.map_cons, List.map_nil]); (fail_if_success (with_reducible change False))) | ((with_reducible first | refine cK k1 ?_ | refine cQ k1 ?_ | refine cG k1 ?_); (simp (disch := omega) only [push_cast, ↓zz, seval, hw, guardsV, List.map_cons, List.map_nil]); (fail_if_success (with_reducible change False)); (repeat' (first | (with_reducible refine And.intro ?_ ?_) | omega)); (fail_if_success (any_goals (with_reducible change @Eq (List AV) _ _)))) | (have q_ := term_Equal a b s (by omega) (by omega) (by omega); (with_reducible first | refine cK q_ ?_ | refine cQ q_ ?_ | refine cG q_ ?_); clear q_; (simp (disch := omega) only [push_cast, ↓zz, seval, hw, guardsV, List.map_cons, List.map_nil]); (fail_if_success (with_reducible change False))) | ((with_reducible first | refine cK k2 ?_ | refine cQ k2 ?_ | refine cG k2 ?_); (simp (disch := omega) only [push_cast, ↓zz, seval, hw, guardsV, List.map_cons, List.map_nil]); (fail_if_success (with_reducible change False)); (repeat' (first | (with_reducible refine And.intro ?_ ?_) | omega)); (fail_if_success (any_goals (with_reducible change @Eq (List AV) _ _)))) | (have q_ := span_Has g ((valueT a [x]).getD 0) (by omega); (with_reducible first | refine cK q_ ?_ | refine cQ q_ ?_ | refine cG q_ ?_); clear q_; (simp (disch := omega) only [push_cast, ↓zz, seval, hw, guardsV, List.map_cons, List.map_nil]); (fail_if_success (with_reducible change False)); (repeat' (first | (with_reducible refine And.intro ?_ ?_) | omega)); (fail_if_success (any_goals (with_reducible change @Eq (List AV) _ _)))) | omega | (with_reducible intro _)))
      all_goals (exfalso; clear hG hv hv2 hP hE k1 k2; simp_all [preP, eqP]; done)
    · refine pc_w' c_law04_TermFar ?_
      unfold B_law04_TermFar
      (repeat' (first | (simp (disch := omega) only [push_cast, ↓zz, seval, guardsV, List.map_cons, List.map_nil]) | (with_reducible refine And.intro ?_ ?_) | (with_reducible refine condW_split ?_ ?_ <;> intro hc <;> (try simp only [push_cast] at hc)) | (with_reducible refine guardW_split ?_ ?_ <;> intro hc <;> (try simp only [push_cast] at hc)) | ((with_reducible first | refine eK hG ?_ | refine eQ hG ?_ | refine eG hG ?_)) | ((with_reducible first | refine eK law_awake ?_ | refine eQ law_awake ?_ | refine eG law_awake ?_)) | ((with_reducible first | refine cK hG ?_ | refine cQ hG ?_ | refine cG hG ?_); (simp (disch := omega) only [push_cast, ↓zz, seval, guardsV, List.map_cons, List.map_nil]); (fail_if_success (with_reducible change False))) | ((with_reducible first | refine cK law_awake ?_ | refine cQ law_awake ?_ | refine cG law_awake ?_); (simp (disch := omega) only [push_cast, ↓zz, seval, guardsV, List.map_cons, List.map_nil]); (fail_if_success (with_reducible change False))) | omega | (with_reducible intro _)))
      all_goals trace_state
end Go.Proofs.Ytdjbcenfgceejaa
