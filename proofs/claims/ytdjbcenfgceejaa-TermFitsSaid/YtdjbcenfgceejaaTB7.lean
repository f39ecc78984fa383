/-
  The numbers of a set whose values are in another one.
  Plain laws: the numbers whose values are in a set; the symbols of which something is true.
  The symbols of which a term's value is in a set, and of which two terms have one value, as the code finds them.
  Contracts of layer 4's statements: the symbols of which a term's value is in a set, or of which two terms have one value.
  All sums of two sets' numbers.
  The values of some parts of one symbol, added.
  The inner values of all windows of guards: term.values.
  What a part's values, sums of sets, and a term's inner values are, number by number.
  The inner values of all windows, and a term's values.
-/
import Derived.Test.YtdjbcenfgceejaaTB6
import Derived.Test.YtdjbcenfgceejaaTB5
set_option linter.unusedSimpArgs false
set_option linter.unusedVariables false
namespace Go.Proofs.Ytdjbcenfgceejaa
open Abs
def preY (d t : Nat) (x : Span) (j : Int) (y : Span) : Span := ⟨max x.lo ((j * 2 ^ t + y.lo) * 2 ^ d), min x.hi ((j * 2 ^ t + y.hi + 1) * 2 ^ d - 1)⟩
def keepS (s : Span) : List Span := if s.lo ≤ s.hi then [s] else []
def preW (d t : Nat) (want : List Span) (x : Span) (j : Int) : List Span := want.flatMap fun y => keepS (preY d t x j y)
def preX (d t : Nat) (want : List Span) (x : Span) : List Span := (numsS (x.lo / 2 ^ d / 2 ^ t) (x.hi / 2 ^ d / 2 ^ t + 1 - x.lo / 2 ^ d / 2 ^ t).toNat).flatMap fun j => preW d t want x j
def preL (p : Part) (s g : List Span) : List Span :=
  if bitsB p = false then [] else normI ((meetL (normI s) (normI topS)).flatMap fun x => preX p.drop.toNat p.take.toNat (takenL p g) x)
def Low (n : Nat) (l : List Span) : Prop := Plain l ∧ ∀ s ∈ l, 0 ≤ s.lo ∧ s.lo ≤ s.hi ∧ s.hi ≤ 2 ^ n - 1
theorem low_len : ∀ {l : List Span} {f N : Nat}, Plain l → (∀ s ∈ l, (f : Int) ≤ s.lo ∧ s.hi < N) → f ≤ N → l.length + f ≤ N
  | [], f, N, _, _, hf => by simpa using hf
  | s :: l, f, N, h, hb, hf => by
    have h1 := hb s (by simp)
    have h2 := h.head
    have := low_len (l := l) (f := (s.hi + 1).toNat) (N := N) h.tail (fun t ht => by
      have := (List.pairwise_cons.1 h.2).1 t ht
      have := hb t (by simp [ht])
      omega) (by omega)
    simp only [List.length_cons]
    omega
theorem Low.len {n : Nat} {l : List Span} (h : Low n l) : (l.length : Int) ≤ 2 ^ n := by
  have e : ((2 ^ n : Nat) : Int) = 2 ^ n := by simp
  have := low_len (f := 0) (N := 2 ^ n) h.1 (fun s hs => by have := h.2 s hs; simp only [Int.ofNat_zero]; omega) (Nat.zero_le _)
  omega
theorem low_of {n : Nat} {l : List Span} (h1 : Plain l) (h2 : ∀ v, memL l v → 0 ≤ v ∧ v ≤ 2 ^ n - 1) : Low n l :=
  ⟨h1, fun s hs => by
    have hle := h1.1 s hs
    have := h2 s.lo ⟨s, hs, Int.le_refl _, hle⟩
    have := h2 s.hi ⟨s, hs, hle, Int.le_refl _⟩
    omega⟩
theorem taken_spec {p : Part} (g : List Span) (hb : bitsB p = true) : Low p.take.toNat (takenL p g) ∧ ∀ w, memL (takenL p g) w ↔ (0 ≤ w ∧ w ≤ 2 ^ p.take.toNat - 1) ∧ hasI g (w * 2 ^ p.up.toNat) = true := by
  have hbi := bits_iff.1 hb
  have ht := pow21 p.take.toNat (by omega)
  have key : Plain (takenL p g) ∧ ∀ w, memL (takenL p g) w ↔ (0 ≤ w ∧ w ≤ 2 ^ p.take.toNat - 1) ∧ hasI g (w * 2 ^ p.up.toNat) = true := by
    unfold takenL
    rw [allS_norm (by omega)]
    split
    · rename_i hu
      obtain ⟨p1, p2⟩ := normI_plain g
      obtain ⟨q1, q2⟩ := meet_spec (normI g) (allS p.take.toNat) p1 ⟨by simp [allS]; omega, by simp [allS]⟩
      refine ⟨q1, fun w => ?_⟩
      rw [q2 w, p2 w, allS, memL_cons, hu, hasI_iff]
      simp only [memL_nil, or_false]
      rw [show w * 2 ^ (0 : Int).toNat = w by simp]
      constructor
      · rintro ⟨⟨h1, h2⟩, h3⟩; exact ⟨h3, h2.1, h2.2, h1⟩
      · rintro ⟨h3, h1, h2, h4⟩; exact ⟨⟨h4, h1, h2⟩, h3⟩
    · obtain ⟨p1, p2⟩ := normI_plain (((numsI (allS p.take.toNat)).filter fun x => hasI g (x * 2 ^ p.up.toNat)).map oneS)
      refine ⟨p1, fun w => ?_⟩
      rw [p2 w]
      have hm : memL (((numsI (allS p.take.toNat)).filter fun x => hasI g (x * 2 ^ p.up.toNat)).map oneS) w ↔ (0 ≤ w ∧ w ≤ 2 ^ p.take.toNat - 1) ∧ hasI g (w * 2 ^ p.up.toNat) = true := by
        constructor
        · rintro ⟨s, hs, h1, h2⟩
          obtain ⟨x, hx, rfl⟩ := List.mem_map.1 hs
          simp only at h1 h2
          obtain rfl : w = x := by omega
          obtain ⟨k1, k2⟩ := List.mem_filter.1 hx
          rw [nums_mem, allS, memL_cons] at k1
          simp only [memL_nil, or_false] at k1
          exact ⟨k1, k2⟩
        · rintro ⟨h1, h2⟩
          refine ⟨oneS w, List.mem_map.2 ⟨w, List.mem_filter.2 ⟨?_, h2⟩, rfl⟩, Int.le_refl _, Int.le_refl _⟩
          rw [nums_mem, allS, memL_cons]
          exact .inl h1
      rw [hm]
      constructor
      · exact fun h => h.1
      · exact fun h => ⟨h, by omega, by omega⟩
  exact ⟨low_of key.1 fun v hv => ((key.2 v).1 hv).1, key.2⟩
theorem keep_len (s : Span) : (keepS s).length ≤ 1 := by unfold keepS; split <;> simp
theorem preW_snoc {d t : Nat} {want : List Span} {x : Span} {j : Int} {i : Nat} (h : i < want.length) : preW d t (want.take (i + 1)) x j = preW d t (want.take i) x j ++ keepS (preY d t x j (nth want i)) := by
  rw [take_at h, preW, List.flatMap_append]
  simp [preW]
theorem preW_len {d t : Nat} {x : Span} {j : Int} : ∀ (want : List Span), (preW d t want x j).length ≤ want.length
  | [] => by simp [preW]
  | y :: w => by
    have h1 := preW_len (d := d) (t := t) (x := x) (j := j) w
    have h2 := keep_len (preY d t x j y)
    simp only [preW, List.flatMap_cons, List.length_append, List.length_cons] at *
    omega
set_option maxHeartbeats 2000000 in
theorem part_Pre (p : Part) (s g : List Span) (hs : s.length ≤ 100000) (hg : g.length ≤ 100000000000) : PC Try.prog 59 [partV p, spansV s, spansV g] (spansV (preL p s g)) := by
  have hM := span_Meet s topS (by omega) (by simp [topS])
  obtain ⟨mp, mb, mm⟩ := meet_top s
  have hml : (meetL (normI s) (normI topS)).length ≤ 100001 := by
    have h1 := meet_len (normI s) (normI topS)
    have h2 := normI_len s
    have h3 := normI_len topS
    have h4 : topS.length = 1 := rfl
    omega
  have hB := part_bits p
  cases hb : bitsB p with
  | false =>
    rw [hb] at hB
    refine pc_w' c_part_Pre ?_
    unfold B_part_Pre
    (repeat' (first | (simp (disch := omega) only [push_cast, ↓zz, seval]) | (with_reducible refine And.intro ?_ ?_) | (with_reducible refine condW_split ?_ ?_ <;> intro hc <;> (try simp only [push_cast] at hc)) | (with_reducible refine guardW_split ?_ ?_ <;> intro hc <;> (try simp only [push_cast] at hc)) | ((with_reducible first | refine eK hB ?_ | refine eQ hB ?_ | refine eG hB ?_)) | ((with_reducible first | refine cK hB ?_ | refine cQ hB ?_ | refine cG hB ?_); (simp (disch := omega) only [push_cast, ↓zz, seval]); (fail_if_success (with_reducible change False))) | omega | (with_reducible intro _)))
    all_goals (rw [preL, if_pos hb])
  | true =>
  rw [hb] at hB
  have hbi := bits_iff.1 hb
  have hT := part_taken p g hb hg
  obtain ⟨wl, _⟩ := taken_spec g hb
  have hI : preL p s g = normI ((meetL (normI s) (normI topS)).flatMap fun x => preX p.drop.toNat p.take.toNat (takenL p g) x) := by rw [preL, if_neg (by simp [hb])]
  have hTS : [(⟨0, 2097151⟩ : Span)] = topS := rfl
  refine pc_w' c_part_Pre ?_
  unfold B_part_Pre
  (repeat' (first | (simp (disch := omega) only [push_cast, ↓zz, seval, topS, spansV, spanV, List.map_cons, List.map_nil, grps_lst]) | (with_reducible refine And.intro ?_ ?_) | (with_reducible refine condW_split ?_ ?_ <;> intro hc <;> (try simp only [push_cast] at hc)) | (with_reducible refine guardW_split ?_ ?_ <;> intro hc <;> (try simp only [push_cast] at hc)) | ((with_reducible first | refine eK hB ?_ | refine eQ hB ?_ | refine eG hB ?_)) | ((with_reducible first | refine eK hT ?_ | refine eQ hT ?_ | refine eG hT ?_)) | ((with_reducible first | refine eK hM ?_ | refine eQ hM ?_ | refine eG hM ?_)) | ((with_reducible first | refine cK hB ?_ | refine cQ hB ?_ | refine cG hB ?_); (simp (disch := omega) only [push_cast, ↓zz, seval, topS, spansV, spanV, List.map_cons, List.map_nil, grps_lst]); (fail_if_success (with_reducible change False))) | ((with_reducible first | refine cK hT ?_ | refine cQ hT ?_ | refine cG hT ?_); (simp (disch := omega) only [push_cast, ↓zz, seval, topS, spansV, spanV, List.map_cons, List.map_nil, grps_lst]); (fail_if_success (with_reducible change False))) | ((with_reducible first | refine cK hM ?_ | refine cQ hM ?_ | refine cG hM ?_); (simp (disch := omega) only [push_cast, ↓zz, seval, topS, spansV, spanV, List.map_cons, List.map_nil, grps_lst]); (fail_if_success (with_reducible change False))) | omega | (with_reducible intro _)))
  rw [hTS, hI]
  generalize meetL (normI s) (normI topS) = m at *
  generalize takenL p g = want at *
  have hwl := wl.len
  have htk := pow21 p.take.toNat (by omega)
  have hdr := pow21 p.drop.toNat (by omega)
  have hd21 : p.drop.toNat ≤ 21 := by omega
  have ht21 : p.take.toNat ≤ 21 := by omega
  generalize hdd : p.drop.toNat = d at *
  generalize htt : p.take.toNat = t at *
  have hsh : ∀ x : Int, 0 ≤ x ∧ x ≤ 2097151 → x.fdiv (2 ^ min d IntKind.i64.bits) = x / 2 ^ d ∧ (x / 2 ^ d).fdiv (2 ^ min t IntKind.i64.bits) = x / 2 ^ d / 2 ^ t ∧ (0 ≤ x / 2 ^ d / 2 ^ t ∧ x / 2 ^ d / 2 ^ t * 2 ^ t ≤ 2097151) := fun x hx => by
    have h1 := div_bd hd21 hx
    have h2 := div_bd ht21 h1
    have h3 := Int.ediv_mul_le (x / 2 ^ d) (b := 2 ^ t) (by omega)
    exact ⟨shr_div hd21, shr_div ht21, h2.1, by omega⟩
  refine LoopK_T (T_loopR (fun (s : Nat × List Span) => s.1 ≤ m.length ∧ s.2.length ≤ s.1 * 4194304 ∧ (m.flatMap fun x => preX d t want x) = s.2 ++ (m.drop s.1).flatMap fun x => preX d t want x) (fun s => m.length - s.1)
    (fun s => [(3, .ptr 0 1 0 0), (7, spansV want), (8, .ref 1 1 0 s.2.length), (25, spansV m), (26, .int .i64 m.length), (27, .int .i64 s.1)]) (fun s => [⟨4, 1, true, [partV p]⟩, ⟨2, 1, false, s.2.map spanV⟩]) (fun env _ => [srcOf 4 (env 3), srcOf 2 (env 8)]) (0, []) ⟨by simp, by simp, by simp⟩ ?_ ?_)
  · (repeat' (first | (simp (disch := omega) only [push_cast, ↓zz, seval]) | (with_reducible refine And.intro ?_ ?_) | (with_reducible refine condW_split ?_ ?_ <;> intro hc <;> (try simp only [push_cast] at hc)) | (with_reducible refine guardW_split ?_ ?_ <;> intro hc <;> (try simp only [push_cast] at hc)) | omega | (with_reducible intro _)))
  rintro ⟨k, out⟩ ⟨h1, h2, h3⟩
  simp only at h1 h2 h3
  rcases Nat.lt_or_ge k m.length with hk | hk
  · have hx := mb _ (nth_mem hk)
    rw [drop_at hk, List.flatMap_cons, preX] at h3
    obtain ⟨a1, a2, a3⟩ := hsh (nth m k).lo (by omega)
    obtain ⟨b1, b2, b3⟩ := hsh (nth m k).hi (by omega)
    refine W_T ?_
    (repeat' (first | (simp (disch := omega) only [push_cast, ↓zz, seval, hdd, htt, a1, a2, b1, b2]) | (with_reducible refine And.intro ?_ ?_) | (with_reducible refine condW_split ?_ ?_ <;> intro hc <;> (try simp only [push_cast] at hc)) | (with_reducible refine guardW_split ?_ ?_ <;> intro hc <;> (try simp only [push_cast] at hc)) | omega | (with_reducible intro _)))
    generalize hjl : (nth m k).lo / 2 ^ d / 2 ^ t = jl at *
    generalize hjh : (nth m k).hi / 2 ^ d / 2 ^ t = jh at *
    generalize nth m k = x at *
    generalize haf : (m.drop (k + 1)).flatMap (fun x => preX d t want x) = after at *
    generalize hT2 : (2 : Int) ^ t = T at *
    refine LoopK_T (T_loopR (fun (s : Int × List Span) => (jl ≤ s.1 ∧ (s.1 ≤ jh + 1 ∨ s.1 = jl)) ∧ (s.2.length : Int) ≤ k * 4194304 + (s.1 - jl) * T ∧ (m.flatMap fun x => preX d t want x) = s.2 ++ ((numsS s.1 (jh + 1 - s.1).toNat).flatMap (fun j => preW d t want x j) ++ after)) (fun s => (jh + 1 - s.1).toNat)
      (fun s => [(3, .ptr 0 1 0 0), (7, spansV want), (8, .ref 1 1 0 s.2.length), (10, .ptr 2 1 0 0), (11, .int .i64 s.1), (25, spansV m), (26, .int .i64 m.length), (27, .int .i64 k)]) (fun s => [⟨4, 1, true, [partV p]⟩, ⟨2, 1, false, s.2.map spanV⟩, ⟨2, 1, true, [spanV x]⟩]) (fun env _ => [srcOf 4 (env 3), srcOf 2 (env 8), srcOf 2 (env 10)]) (jl, out) ⟨⟨by simp, by simp⟩, by simp only [Int.sub_self, Int.zero_mul]; omega, h3⟩ ?_ ?_)
    · (repeat' (first | (simp (disch := omega) only [push_cast, ↓zz, seval]) | (with_reducible refine And.intro ?_ ?_) | (with_reducible refine condW_split ?_ ?_ <;> intro hc <;> (try simp only [push_cast] at hc)) | (with_reducible refine guardW_split ?_ ?_ <;> intro hc <;> (try simp only [push_cast] at hc)) | omega | (with_reducible intro _)))
    rintro ⟨j, o⟩ ⟨⟨g1, g2⟩, g3, g4⟩
    simp only at g1 g2 g3 g4
    have hTb : (j - jl) * T ≤ 4194304 := by
      have : (j - jl) * T ≤ (jh + 1) * T := Int.mul_le_mul_of_nonneg_right (by omega) (by omega)
      rw [Int.add_mul] at this
      omega
    rcases Int.lt_or_le jh j with hj | hj
    · rw [nums_end hj, List.flatMap_nil, List.nil_append] at g4
      refine W_T ?_
      (repeat' (first | (simp (disch := omega) only [push_cast, ↓zz, seval, hdd, htt, b1, b2]) | (with_reducible refine And.intro ?_ ?_) | (with_reducible refine condW_split ?_ ?_ <;> intro hc <;> (try simp only [push_cast] at hc)) | (with_reducible refine guardW_split ?_ ?_ <;> intro hc <;> (try simp only [push_cast] at hc)) | omega | (with_reducible intro _)))
      exact ⟨(k + 1, o), ⟨⟨rfl, by simp⟩, leSL_refl _ _⟩, ⟨by simp only; omega, by simp only; omega, by rw [haf]; exact g4⟩, by simp only; omega⟩
    · rw [nums_at hj, List.flatMap_cons, List.append_assoc] at g4
      have hjb : 0 ≤ j * T ∧ j * T ≤ 2097151 := by
        have q1 : 0 ≤ j * T := Int.mul_nonneg (by omega) (by omega)
        have q2 : j * T ≤ jh * T := Int.mul_le_mul_of_nonneg_right hj (by omega)
        omega
      have hj4 : j ≤ 2097151 := by
        have : j * 1 ≤ j * T := Int.mul_le_mul_of_nonneg_left (by omega) (by omega)
        omega
      have w1 : IntKind.i64.wrap (j * 2 ^ min t IntKind.i64.bits) = j * T := by rw [sh_wrap ht21 (by omega), hT2]
      refine W_T ?_
      (repeat' (first | (simp (disch := omega) only [push_cast, ↓zz, seval, hdd, htt, b1, b2]) | (with_reducible refine And.intro ?_ ?_) | (with_reducible refine condW_split ?_ ?_ <;> intro hc <;> (try simp only [push_cast] at hc)) | (with_reducible refine guardW_split ?_ ?_ <;> intro hc <;> (try simp only [push_cast] at hc)) | omega | (with_reducible intro _)))
      refine LoopK_T (T_loopR (fun (s : Nat × List Span) => s.1 ≤ want.length ∧ s.2 = o ++ preW d t (want.take s.1) x j) (fun s => want.length - s.1)
        (fun s => [(3, .ptr 0 1 0 0), (7, spansV want), (8, .ref 1 1 0 s.2.length), (10, .ptr 2 1 0 0), (11, .int .i64 j), (25, spansV m), (26, .int .i64 m.length), (27, .int .i64 k), (51, spansV want), (52, .int .i64 want.length), (53, .int .i64 s.1)]) (fun s => [⟨4, 1, true, [partV p]⟩, ⟨2, 1, false, s.2.map spanV⟩, ⟨2, 1, true, [spanV x]⟩]) (fun env _ => [srcOf 4 (env 3), srcOf 2 (env 8), srcOf 2 (env 10)]) (0, o) ⟨by simp, by simp [preW]⟩ ?_ ?_)
      · (repeat' (first | (simp (disch := omega) only [push_cast, ↓zz, seval]) | (with_reducible refine And.intro ?_ ?_) | (with_reducible refine condW_split ?_ ?_ <;> intro hc <;> (try simp only [push_cast] at hc)) | (with_reducible refine guardW_split ?_ ?_ <;> intro hc <;> (try simp only [push_cast] at hc)) | omega | (with_reducible intro _)))
      rintro ⟨i, q⟩ ⟨f1, f2⟩
      simp only at f1 f2
      have hql : (q.length : Int) ≤ k * 4194304 + (j - jl) * T + T := by
        have := preW_len (d := d) (t := t) (x := x) (j := j) (want.take i)
        rw [f2]
        simp only [List.length_append, List.length_take] at *
        omega
      rcases Nat.lt_or_ge i want.length with hi | hi
      · have hy := wl.2 _ (nth_mem hi)
        rw [hT2] at hy
        have hsn := preW_snoc (d := d) (t := t) (x := x) (j := j) hi
        generalize hyy : nth want i = y at *
        have hya : y.lo < T ∧ y.hi < T := by omega
        have w2 : bitsI .or .i64 (j * T) y.lo = j * T + y.lo := or_low t j.toNat (by rw [hT2, Int.mul_comm, Int.toNat_of_nonneg (by omega)]) (by rw [hT2]; omega) (by show _ < (2 : Int) ^ 64; omega) (IntWalk.i64_in _ (by omega))
        have w3 : bitsI .or .i64 (j * T) y.hi = j * T + y.hi := or_low t j.toNat (by rw [hT2, Int.mul_comm, Int.toNat_of_nonneg (by omega)]) (by rw [hT2]; omega) (by show _ < (2 : Int) ^ 64; omega) (IntWalk.i64_in _ (by omega))
        have w4 := sh_wrap (x := j * T + y.lo) hd21 (by omega)
        have w5 : IntKind.i64.wrap (j * T + y.hi + 1) = j * T + y.hi + 1 := IntWalk.i64_in _ (by omega)
        have w6 := sh_wrap (x := j * T + y.hi + 1) hd21 (by omega)
        have w7 : IntKind.i64.wrap ((j * T + y.hi + 1) * 2 ^ d - 1) = (j * T + y.hi + 1) * 2 ^ d - 1 := by
          have r1 : (j * T + y.hi + 1) * 2 ^ d ≤ 4194304 * 2097152 := Int.mul_le_mul (by omega) hdr.2 (by omega) (by omega)
          have r2 : 0 ≤ (j * T + y.hi + 1) * 2 ^ d := Int.mul_nonneg (by omega) (by omega)
          exact IntWalk.i64_in _ (by omega)
        simp only [preY, hT2] at hsn
        refine W_T ?_
        (repeat' (first | (simp (disch := omega) only [push_cast, ↓zz, seval, hdd, htt, hyy, w1, w2, w3, w4, w5, w6, w7]) | (with_reducible refine And.intro ?_ ?_) | (with_reducible refine condW_split ?_ ?_ <;> intro hc <;> (try simp only [push_cast] at hc)) | (with_reducible refine guardW_split ?_ ?_ <;> intro hc <;> (try simp only [push_cast] at hc)) | omega | (with_reducible intro _)))
        · rw [keepS, if_pos (by assumption)] at hsn
          exact ⟨(i + 1, q ++ [⟨max x.lo ((j * T + y.lo) * 2 ^ d), min x.hi ((j * T + y.hi + 1) * 2 ^ d - 1)⟩]), ⟨⟨by simp, by simp⟩, by rw [List.map_append]; exact leSL_refl _ _⟩, ⟨by simp only; omega, by simp only; rw [f2, hsn, List.append_assoc]⟩, by simp only; omega⟩
        · rw [keepS, if_neg (by assumption), List.append_nil] at hsn
          exact ⟨(i + 1, q), ⟨⟨rfl, by simp⟩, leSL_refl _ _⟩, ⟨by simp only; omega, by simp only; rw [f2, hsn]⟩, by simp only; omega⟩
      · obtain rfl : i = want.length := by omega
        rw [List.take_length] at f2
        rw [← List.append_assoc, ← f2] at g4
        refine W_T ?_
        (repeat' (first | (simp (disch := omega) only [push_cast, ↓zz, seval]) | (with_reducible refine And.intro ?_ ?_) | (with_reducible refine condW_split ?_ ?_ <;> intro hc <;> (try simp only [push_cast] at hc)) | (with_reducible refine guardW_split ?_ ?_ <;> intro hc <;> (try simp only [push_cast] at hc)) | omega | (with_reducible intro _)))
        exact ⟨(j + 1, q), ⟨⟨rfl, rfl⟩, leSL_refl _ _⟩, ⟨⟨by simp only; omega, by simp only; omega⟩, by simp only; rw [show j + 1 - jl = j - jl + 1 by omega, Int.add_mul]; omega, g4⟩, by simp only; omega⟩
  · rw [List.drop_of_length_le hk, List.flatMap_nil, List.append_nil] at h3
    rw [h3]
    have hN := span_Norm out (by omega)
    refine W_T ?_
    (repeat' (first | (simp (disch := omega) only [push_cast, ↓zz, seval, grps_lst]) | (with_reducible refine And.intro ?_ ?_) | (with_reducible refine condW_split ?_ ?_ <;> intro hc <;> (try simp only [push_cast] at hc)) | (with_reducible refine guardW_split ?_ ?_ <;> intro hc <;> (try simp only [push_cast] at hc)) | ((with_reducible first | refine eK hN ?_ | refine eQ hN ?_ | refine eG hN ?_)) | ((with_reducible first | refine cK hN ?_ | refine cQ hN ?_ | refine cG hN ?_); (simp (disch := omega) only [push_cast, ↓zz, seval, grps_lst]); (fail_if_success (with_reducible change False))) | omega | (with_reducible intro _)))
    all_goals trace_state
end Go.Proofs.Ytdjbcenfgceejaa
set_option linter.unusedSimpArgs false
set_option linter.unusedVariables false
namespace Go.Proofs.Ytdjbcenfgceejaa
open Abs
theorem mem_keep {s : Span} {v : Int} : memL (keepS s) v ↔ s.lo ≤ v ∧ v ≤ s.hi := by
  unfold keepS
  split
  · rw [memL_cons]; simp only [memL_nil, or_false]
  · rename_i h
    exact ⟨fun hh => absurd hh (memL_nil _), fun hh => by omega⟩
theorem mem_flat {α : Type} {f : α → List Span} : ∀ {l : List α} {v : Int}, memL (l.flatMap f) v ↔ ∃ x ∈ l, memL (f x) v
  | [], v => by simp [memL]
  | x :: l, v => by
    rw [List.flatMap_cons, memL_app, mem_flat]
    constructor
    · rintro (h | ⟨y, hy, h⟩)
      · exact ⟨x, by simp, h⟩
      · exact ⟨y, by simp [hy], h⟩
    · rintro ⟨y, hy, h⟩
      rcases List.mem_cons.1 hy with rfl | hy
      · exact .inl h
      · exact .inr ⟨y, hy, h⟩
theorem div_between {a b v D : Int} (hD : 0 < D) : (a * D ≤ v ∧ v ≤ (b + 1) * D - 1) ↔ (a ≤ v / D ∧ v / D ≤ b) := by
  rw [Int.le_ediv_iff_mul_le hD]
  have : v / D ≤ b ↔ v ≤ (b + 1) * D - 1 := by
    rw [show v / D ≤ b ↔ v / D < b + 1 by omega, Int.ediv_lt_iff_lt_mul hD]; omega
  rw [this]
theorem mem_preX {d t : Nat} {want : List Span} {x : Span} {v : Int} (hw : Low t want) (hx : x.lo ≤ x.hi) : memL (preX d t want x) v ↔ (x.lo ≤ v ∧ v ≤ x.hi) ∧ memL want (v / 2 ^ d % 2 ^ t) := by
  have hD : (0 : Int) < 2 ^ d := Int.pow_pos (by decide)
  have hT : (0 : Int) < 2 ^ t := Int.pow_pos (by decide)
  have hone : ∀ j y, y ∈ want → (memL (keepS (preY d t x j y)) v ↔ (x.lo ≤ v ∧ v ≤ x.hi) ∧ (j * 2 ^ t + y.lo ≤ v / 2 ^ d ∧ v / 2 ^ d ≤ j * 2 ^ t + y.hi)) := fun j y hy => by
    have hb := div_between (a := j * 2 ^ t + y.lo) (b := j * 2 ^ t + y.hi) (v := v) hD
    rw [mem_keep, ← hb]
    simp only [preY]
    omega
  rw [preX, mem_flat]
  constructor
  · rintro ⟨j, hj, h⟩
    rw [preW, mem_flat] at h
    obtain ⟨y, hy, h⟩ := h
    obtain ⟨h1, h2, h3⟩ := (hone j y hy).1 h
    have hyb := hw.2 y hy
    refine ⟨h1, y, hy, ?_⟩
    have e : v / 2 ^ d = j * 2 ^ t + (v / 2 ^ d - j * 2 ^ t) := by omega
    have e2 : v / 2 ^ d % 2 ^ t = v / 2 ^ d - j * 2 ^ t := by
      rw [e, Int.add_comm (j * 2 ^ t), Int.add_mul_emod_self_right]
      rw [Int.emod_eq_of_lt (by omega) (by omega)]
      omega
    rw [e2]
    omega
  · rintro ⟨h1, y, hy, h2⟩
    have hq := Int.emod_add_mul_ediv (v / 2 ^ d) (2 ^ t)
    refine ⟨v / 2 ^ d / 2 ^ t, ?_, ?_⟩
    · have m1 : x.lo / 2 ^ d / 2 ^ t ≤ v / 2 ^ d / 2 ^ t := Int.ediv_le_ediv hT (Int.ediv_le_ediv hD h1.1)
      have m2 : v / 2 ^ d / 2 ^ t ≤ x.hi / 2 ^ d / 2 ^ t := Int.ediv_le_ediv hT (Int.ediv_le_ediv hD h1.2)
      simp only [numsS, List.mem_map, List.mem_range]
      exact ⟨(v / 2 ^ d / 2 ^ t - x.lo / 2 ^ d / 2 ^ t).toNat, by omega, by omega⟩
    · rw [preW, mem_flat]
      refine ⟨y, hy, (hone _ y hy).2 ⟨h1, ?_⟩⟩
      rw [Int.mul_comm] at hq
      omega
theorem pre_spec {p : Part} (s g : List Span) (hb : bitsB p = true) : Plain (preL p s g) ∧ ∀ v, memL (preL p s g) v ↔ memL s v ∧ (0 ≤ v ∧ v ≤ 2097151) ∧ hasI g (valP p v) = true := by
  have hbi := bits_iff.1 hb
  have ht := pow21 p.take.toNat (by omega)
  obtain ⟨wl, wm⟩ := taken_spec g hb
  obtain ⟨mp, mb, mm⟩ := meet_top s
  have e : preL p s g = normI ((meetL (normI s) (normI topS)).flatMap fun x => preX p.drop.toNat p.take.toNat (takenL p g) x) := by rw [preL, if_neg (by simp [hb])]
  obtain ⟨n1, n2⟩ := normI_plain ((meetL (normI s) (normI topS)).flatMap fun x => preX p.drop.toNat p.take.toNat (takenL p g) x)
  rw [e]
  refine ⟨n1, fun v => ?_⟩
  have hkey : memL ((meetL (normI s) (normI topS)).flatMap fun x => preX p.drop.toNat p.take.toNat (takenL p g) x) v ↔ memL s v ∧ (0 ≤ v ∧ v ≤ 2097151) ∧ hasI g (valP p v) = true := by
    rw [mem_flat]
    constructor
    · rintro ⟨x, hx, h⟩
      obtain ⟨h1, h2⟩ := (mem_preX wl (mb x hx).2.1).1 h
      obtain ⟨h3, h4⟩ := (mm v).1 ⟨x, hx, h1⟩
      exact ⟨h3, h4, ((wm _).1 h2).2⟩
    · rintro ⟨h1, h2, h3⟩
      obtain ⟨x, hx, h4⟩ := (mm v).2 ⟨h1, h2⟩
      have m0 := Int.emod_nonneg (v / 2 ^ p.drop.toNat) (b := 2 ^ p.take.toNat) (by omega)
      have m1 := Int.emod_lt_of_pos (v / 2 ^ p.drop.toNat) (b := 2 ^ p.take.toNat) (by omega)
      exact ⟨x, hx, (mem_preX wl (mb x hx).2.1).2 ⟨h4, (wm _).2 ⟨⟨m0, by omega⟩, h3⟩⟩⟩
  rw [n2 v, hkey]
  constructor
  · exact fun h => h.1
  · exact fun h => ⟨h, by omega, by omega⟩
theorem fold_gather (p : Int → Bool) : ∀ (l : List Int) (out : List Span), Rising l → Plain out → (∀ x ∈ l, Ahead out x) → Plain (l.foldl (gF p) out) ∧ ∀ v, memL (l.foldl (gF p) out) v ↔ memL out v ∨ (v ∈ l ∧ p v = true)
  | [], out, _, h, _ => ⟨h, fun v => by simp⟩
  | x :: l, out, hr, h, ha => by
    have hr' : Rising l := (List.pairwise_cons.1 hr).2
    have hgt := (List.pairwise_cons.1 hr).1
    have hax := ha x (by simp)
    rw [List.foldl_cons, gF]
    cases hp : p x
    · obtain ⟨b1, b2⟩ := fold_gather p l out hr' h (fun y hy => ha y (by simp [hy]))
      refine ⟨by simpa using b1, fun v => ?_⟩
      have := b2 v
      simp only [Bool.false_eq_true, if_false]
      rw [this, List.mem_cons]
      constructor
      · rintro (h | ⟨h1, h2⟩)
        · exact .inl h
        · exact .inr ⟨.inr h1, h2⟩
      · rintro (h | ⟨rfl | h1, h2⟩)
        · exact .inl h
        · rw [hp] at h2; cases h2
        · exact .inr ⟨h1, h2⟩
    · obtain ⟨a1, a2, a3⟩ := addS_plain (x := ⟨x, x⟩) h (Int.le_refl _) hax
      obtain ⟨b1, b2⟩ := fold_gather p l (addS out ⟨x, x⟩) hr' a1 (fun y hy => ahead_mono a2 (by have := hgt y hy; simp only; omega))
      refine ⟨by simpa using b1, fun v => ?_⟩
      have := b2 v
      simp only [if_true]
      rw [this, a3 v, List.mem_cons]
      simp only
      constructor
      · rintro ((h | h) | ⟨h1, h2⟩)
        · exact .inl h
        · obtain rfl : v = x := by omega
          exact .inr ⟨.inl rfl, hp⟩
        · exact .inr ⟨.inr h1, h2⟩
      · rintro (h | ⟨rfl | h1, h2⟩)
        · exact .inl (.inl h)
        · exact .inl (.inr ⟨Int.le_refl _, Int.le_refl _⟩)
        · exact .inr ⟨h1, h2⟩
theorem numsS_rising (lo : Int) (n : Nat) : Rising (numsS lo n) := by
  unfold Rising numsS
  rw [List.pairwise_map]
  exact (List.pairwise_lt_range (n := n)).imp (by intro a b h; omega)
theorem nums_rising : ∀ {l : List Span}, Plain l → Rising (numsI l)
  | [], _ => by simp [numsI, Rising]
  | s :: l, h => by
    rw [numsI_cons, Rising, List.pairwise_append]
    refine ⟨numsS_rising _ _, nums_rising h.tail, fun a ha b hb => ?_⟩
    have h1 := h.after (nums_mem.1 hb)
    simp only [numsS, List.mem_map, List.mem_range] at ha
    obtain ⟨i, h2, rfl⟩ := ha
    have := h.head
    omega
theorem gather_spec (p : Int → Bool) {l : List Span} (h : Plain l) : Plain (gatherL p (numsI l)) ∧ ∀ v, memL (gatherL p (numsI l)) v ↔ memL l v ∧ p v = true := by
  obtain ⟨h1, h2⟩ := fold_gather p (numsI l) [] (nums_rising h) ⟨by simp, by simp⟩ (fun x _ s hs => by cases hs)
  refine ⟨h1, fun v => ?_⟩
  rw [gather_eq, h2 v, nums_mem]
  simp only [memL_nil, false_or]
theorem gather_ext {p q : Int → Bool} {l : List Span} (h : Plain l) (he : ∀ v, memL l v → p v = q v) : gatherL p (numsI l) = gatherL q (numsI l) := by
  obtain ⟨a1, a2⟩ := gather_spec p h
  obtain ⟨b1, b2⟩ := gather_spec q h
  refine plain_ext a1 b1 fun v => ?_
  rw [a2 v, b2 v]
  constructor
  · rintro ⟨h1, h2⟩; exact ⟨h1, by rw [← he v h1]; exact h2⟩
  · rintro ⟨h1, h2⟩; exact ⟨h1, by rw [he v h1]; exact h2⟩
theorem move_mem {l : List Span} {d : Int} (hd : -2147483648 ≤ d ∧ d ≤ 2147483648) {v : Int} : memL (moveL l d) v ↔ (memL l (v - d) ∧ -1073741824 ≤ v - d ∧ v - d ≤ 1073741824) ∧ -1073741824 ≤ v ∧ v ≤ 1073741824 := by
  obtain ⟨p1, p2⟩ := normI_plain l
  obtain ⟨q1, q2⟩ := normI_plain ((normI l).map (shiftS d))
  rw [moveL, if_neg (by omega), q2 v, ← p2 (v - d)]
  have : memL ((normI l).map (shiftS d)) v ↔ memL (normI l) (v - d) := by
    constructor
    · rintro ⟨s, hs, h1, h2⟩
      obtain ⟨t, ht, rfl⟩ := List.mem_map.1 hs
      exact ⟨t, ht, by simp only [shiftS] at h1; omega, by simp only [shiftS] at h2; omega⟩
    · rintro ⟨t, ht, h1, h2⟩
      exact ⟨shiftS d t, List.mem_map.2 ⟨t, ht, rfl⟩, by simp only [shiftS]; omega, by simp only [shiftS]; omega⟩
  rw [this]
theorem valP_small {p : Part} {x : Int} (hb : bitsB p = true) (hx : 0 ≤ x ∧ x ≤ 2097151) : 0 ≤ valP p x ∧ valP p x ≤ 66060288 := by
  have hbi := bits_iff.1 hb
  have ht := pow21 p.take.toNat (by omega)
  have hu := pow21 p.up.toNat (by omega)
  have m0 := Int.emod_nonneg (x / 2 ^ p.drop.toNat) (b := 2 ^ p.take.toNat) (by omega)
  have m1 := Int.emod_lt_of_pos (x / 2 ^ p.drop.toNat) (b := 2 ^ p.take.toNat) (by omega)
  have hq := div_bd (d := p.drop.toNat) (by omega) hx
  have m2 : x / 2 ^ p.drop.toNat % 2 ^ p.take.toNat ≤ x / 2 ^ p.drop.toNat := by
    have h1 := Int.emod_add_mul_ediv (x / 2 ^ p.drop.toNat) (2 ^ p.take.toNat)
    have h2 : 0 ≤ 2 ^ p.take.toNat * (x / 2 ^ p.drop.toNat / 2 ^ p.take.toNat) := Int.mul_nonneg (by omega) (Int.ediv_nonneg hq.1 (by omega))
    omega
  rw [valP]
  refine ⟨Int.mul_nonneg m0 (by omega), ?_⟩
  rcases hbi.2.2.2.2.2.2 with h0 | h6
  · rw [h0, show (2 : Int) ^ (0 : Int).toNat = 1 by decide, Int.mul_one]; omega
  · have e := Nat.pow_le_pow_right (n := 2) (by decide) (show p.take.toNat ≤ 6 by omega)
    have e2 : ((2 ^ p.take.toNat : Nat) : Int) = 2 ^ p.take.toNat := by simp
    have e3 := Nat.pow_le_pow_right (n := 2) (by decide) (show p.up.toNat ≤ 20 by omega)
    have e4 : ((2 ^ p.up.toNat : Nat) : Int) = 2 ^ p.up.toNat := by simp
    have : x / 2 ^ p.drop.toNat % 2 ^ p.take.toNat * 2 ^ p.up.toNat ≤ 63 * 1048576 := Int.mul_le_mul (by omega) (by omega) (by omega) (by omega)
    omega
theorem value_one {t : Term} {p : Part} {x : Int} (hp : t.parts = [p]) (hr : rightB p 1 = true) (ho : bitsB t.outer = true) (hs : smallB t.sum = true) (hbs : smallB t.base = true) (hx : 0 ≤ x ∧ x ≤ 1114111) :
    valueT t [x] = if 0 ≤ t.sum + valP p x ∧ t.sum + valP p x ≤ 1114111 then some (t.base + valP t.outer (t.sum + valP p x)) else none := by
  have hra := right_at hr
  have hbp : bitsB p = true := by simp only [rightB, Bool.and_eq_true] at hr; exact hr.2
  have hv := valP_small hbp (x := x) (by omega)
  have hsm := small_bd hs
  have hbm := small_bd hbs
  have e1 : val1 p x = valP p x := (val_yes hbp (by omega)).2
  have hsum : sumP [x] t.parts t.sum = some (t.sum + valP p x) := by
    rw [hp, sumP, if_pos (by simpa using hr), sumP]
    have : nth [x] p.at_.toNat = x := by rw [show p.at_.toNat = 0 by omega]; rfl
    rw [this, e1, show IntKind.i64.wrap (t.sum + valP p x) = t.sum + valP p x from IntWalk.i64_in _ (by omega)]
  have hsy : [x].all symB = true := by simp [symB]; omega
  unfold valueT
  rw [if_pos hsy, hsum]
  simp only
  by_cases h : 0 ≤ t.sum + valP p x ∧ t.sum + valP p x ≤ 1114111
  · have hvb : valB t.outer (t.sum + valP p x) = true := (val_yes ho (by omega)).1
    have hv2 := valP_small ho (x := t.sum + valP p x) (by omega)
    rw [if_pos h, if_pos (by simp [hvb]; omega), show IntKind.i64.wrap (t.base + valP t.outer (t.sum + valP p x)) = t.base + valP t.outer (t.sum + valP p x) from IntWalk.i64_in _ (by omega)]
  · rw [if_neg h, if_neg]
    simp only [valB, ho, Bool.true_and, Bool.and_eq_true, decide_eq_true_eq]
    omega
def preP (t : Term) (g : List Span) (x : Int) : Bool := (valueT t [x]).isSome && hasI g ((valueT t [x]).getD 0)
def preT (t : Term) (s g : List Span) : List Span := gatherL (preP t g) (numsI (symI s))
def eqP (a b : Term) (x : Int) : Bool := (valueT a [x]).isSome && ((valueT b [x]).isSome && decide ((valueT a [x]).getD 0 = (valueT b [x]).getD 0))
def eqT (a b : Term) (s : List Span) : List Span := gatherL (eqP a b) (numsI (symI s))
theorem pre_one {t : Term} {p : Part} (s g : List Span) (hp : t.parts = [p]) (hr : rightB p 1 = true) (ho : bitsB t.outer = true) (hs : smallB t.sum = true) (hbs : smallB t.base = true) :
    preL p (symI s) (moveL (preL t.outer [⟨0, 1114111⟩] (moveL g (-t.base))) (-t.sum)) = preT t s g := by
  have hbp : bitsB p = true := by simp only [rightB, Bool.and_eq_true] at hr; exact hr.2
  have hsm := small_bd hs
  have hbm := small_bd hbs
  obtain ⟨a1, a2⟩ := pre_spec (symI s) (moveL (preL t.outer [⟨0, 1114111⟩] (moveL g (-t.base))) (-t.sum)) hbp
  obtain ⟨s1, s2⟩ := symI_spec s
  obtain ⟨b1, b2⟩ := gather_spec (preP t g) s1
  refine plain_ext a1 b1 fun v => ?_
  rw [a2 v, show memL (preT t s g) v ↔ _ from b2 v, and_congr_right_iff]
  intro hv
  have hsy := ((s2 v).1 hv).1
  have h1 := valP_small hbp (x := v) (by omega)
  rw [preP, value_one hp hr ho hs hbs hsy, hasI_iff, move_mem (by omega), (pre_spec [⟨0, 1114111⟩] (moveL g (-t.base)) ho).2, memL_cons, hasI_iff]
  simp only [memL_nil, or_false]
  rw [show valP p v - -t.sum = t.sum + valP p v by omega]
  by_cases h : 0 ≤ t.sum + valP p v ∧ t.sum + valP p v ≤ 1114111
  · have h2 := valP_small ho (x := t.sum + valP p v) (by omega)
    rw [if_pos h, move_mem (by omega), show valP t.outer (t.sum + valP p v) - -t.base = t.base + valP t.outer (t.sum + valP p v) by omega]
    simp only [Option.isSome_some, Bool.true_and, Option.getD_some, hasI_iff]
    by_cases hA : memL g (t.base + valP t.outer (t.sum + valP p v))
    · simp only [hA, true_and, and_true]
      omega
    · simp only [hA, false_and, and_false]
  · rw [if_neg h]
    simp only [Option.isSome_none, Bool.false_and, Bool.false_eq_true, iff_false]
    rintro ⟨_, _, _, ⟨⟨h3, _⟩, _⟩, _⟩
    exact h h3
end Go.Proofs.Ytdjbcenfgceejaa
set_option linter.unusedSimpArgs false
set_option linter.unusedVariables false
namespace Go.Proofs.Ytdjbcenfgceejaa
open Abs
theorem pre_fun (t : Term) (g : List Span) (x : Int) (ht : t.parts.length ≤ 1000000000000) (hg : g.length ≤ 10000000000) (hx : 0 ≤ x) (hx2 : x ≤ 1114111) :
    PC Try.prog 62 [.int .i32 x, .cptr (termV t), .cptr (spansV g)] (.bool (preP t g x)) := by
  have hv := term_Value t [x] ht (by simp) (by simp; omega)
  have hh := span_Has g ((valueT t [x]).getD 0) (by omega)
  refine pc_w' c_term_Pre_1 ?_
  unfold B_term_Pre_1
  (repeat' (first | (simp (disch := omega) only [push_cast, ↓zz, seval]) | (with_reducible refine And.intro ?_ ?_) | (with_reducible refine condW_split ?_ ?_ <;> intro hc <;> (try simp only [push_cast] at hc)) | (with_reducible refine guardW_split ?_ ?_ <;> intro hc <;> (try simp only [push_cast] at hc)) | ((with_reducible first | refine eK hv ?_ | refine eQ hv ?_ | refine eG hv ?_)) | ((with_reducible first | refine eK hh ?_ | refine eQ hh ?_ | refine eG hh ?_)) | ((with_reducible first | refine cK hv ?_ | refine cQ hv ?_ | refine cG hv ?_); (simp (disch := omega) only [push_cast, ↓zz, seval]); (fail_if_success (with_reducible change False))) | ((with_reducible first | refine cK hh ?_ | refine cQ hh ?_ | refine cG hh ?_); (simp (disch := omega) only [push_cast, ↓zz, seval]); (fail_if_success (with_reducible change False))) | omega | (with_reducible intro _)))
  all_goals (simp [preP, *])
theorem sym_meet (s : List Span) : meetL (normI s) (normI [⟨0, 1114111⟩]) = symI s := by rw [symI, makeR_meet]
theorem sym_norm (s : List Span) : normI (symI s) = symI s := norm_self (symI_spec s).1 fun t ht => by have := (symI_syms s).2 t ht; omega
theorem preL_len (p : Part) (s g : List Span) : (preL p s g).length ≤ 2097152 := by
  cases hb : bitsB p
  · rw [preL, if_pos hb]; simp
  · obtain ⟨h1, h2⟩ := pre_spec s g hb
    have := low_len (f := 0) (N := 2097152) h1 (fun t ht => by
      have hle := h1.1 t ht
      have := ((h2 t.lo).1 ⟨t, ht, Int.le_refl _, hle⟩).2.1
      have := ((h2 t.hi).1 ⟨t, ht, hle, Int.le_refl _⟩).2.1
      simp only [Int.ofNat_zero]; omega) (Nat.zero_le _)
    omega
theorem move_len (l : List Span) (d : Int) : (moveL l d).length ≤ l.length := by
  unfold moveL
  split
  · simp
  · have h1 := normI_len ((normI l).map (shiftS d))
    have h2 := normI_len l
    simp only [List.length_map] at h1
    omega
set_option maxHeartbeats 1000000 in
theorem term_Pre (t : Term) (s g : List Span) (ht : t.parts.length ≤ 1000000000000) (hs : s.length ≤ 50000) (hg : g.length ≤ 10000000000) : PC Try.prog 29 [termV t, spansV s, spansV g] (spansV (preT t s g)) := by
  have hM := span_Meet s [⟨0, 1114111⟩] (by omega) (by simp)
  rw [sym_meet] at hM
  have hsl := (symI_syms s).len
  have hsl2 : (symI s).length ≤ 50001 := by
    rw [← sym_meet]
    have h1 := meet_len (normI s) (normI [⟨0, 1114111⟩])
    have h2 := normI_len s
    have h3 := normI_len [(⟨0, 1114111⟩ : Span)]
    simp only [List.length_singleton] at h3
    omega
  have hMv := span_Move g (IntKind.i64.wrap (0 - t.base)) (by omega)
  have hml := move_len g (IntKind.i64.wrap (0 - t.base))
  have hP1 := part_Pre t.outer [⟨0, 1114111⟩] (moveL g (IntKind.i64.wrap (0 - t.base))) (by simp) (by omega)
  have hzl := preL_len t.outer [⟨0, 1114111⟩] (moveL g (IntKind.i64.wrap (0 - t.base)))
  have hMv2 := span_Move (preL t.outer [⟨0, 1114111⟩] (moveL g (IntKind.i64.wrap (0 - t.base)))) (IntKind.i64.wrap (0 - t.sum)) (by omega)
  have hml2 := move_len (preL t.outer [⟨0, 1114111⟩] (moveL g (IntKind.i64.wrap (0 - t.base)))) (IntKind.i64.wrap (0 - t.sum))
  have hP2 := part_Pre (nth t.parts 0) (symI s) (moveL (preL t.outer [⟨0, 1114111⟩] (moveL g (IntKind.i64.wrap (0 - t.base)))) (IntKind.i64.wrap (0 - t.sum))) (by omega) (by omega)
  have hfin : t.parts.length = 1 → rightB (nth t.parts 0) 1 = true → bitsB t.outer = true → smallB t.base = true → smallB t.sum = true → preL (nth t.parts 0) (symI s) (moveL (preL t.outer [⟨0, 1114111⟩] (moveL g (IntKind.i64.wrap (0 - t.base)))) (IntKind.i64.wrap (0 - t.sum))) = preT t s g := fun h1 h2 h3 h4 h5 => by
    have b1 := small_bd h4
    have b2 := small_bd h5
    have hp : t.parts = [nth t.parts 0] := by
      match hq : t.parts, h1 with
      | [p], _ => simp [nth]
    rw [show IntKind.i64.wrap (0 - t.base) = -t.base by rw [IntWalk.i64_in _ (by omega)]; omega, show IntKind.i64.wrap (0 - t.sum) = -t.sum by rw [IntWalk.i64_in _ (by omega)]; omega]
    exact pre_one s g hp h2 h3 h5 h4
  have hG := term_gather (symI s) 62 [.cptr (termV t), .cptr (spansV g)] (by simp [pureL, AV.pure, pure_parts, pure_spans]) (preP t g) (by omega) (by rw [sym_norm]; exact symI_syms s) (fun x h1 h2 => pre_fun t g x ht hg h1 h2)
  rw [sym_norm] at hG
  refine pc_w' c_term_Pre ?_
  unfold B_term_Pre
  (repeat' (first | (simp (disch := omega) only [push_cast, ↓zz, seval]) | (with_reducible refine And.intro ?_ ?_) | (with_reducible refine condW_split ?_ ?_ <;> intro hc <;> (try simp only [push_cast] at hc)) | (with_reducible refine guardW_split ?_ ?_ <;> intro hc <;> (try simp only [push_cast] at hc)) | ((with_reducible first | refine eK term_symbols ?_ | refine eQ term_symbols ?_ | refine eG term_symbols ?_)) | ((with_reducible first | refine eK hM ?_ | refine eQ hM ?_ | refine eG hM ?_)) | (have q_ := part_Right (nth t.parts 0) 1; (with_reducible first | refine eK q_ ?_ | refine eQ q_ ?_ | refine eG q_ ?_); clear q_) | (have q_ := term_outer t; (with_reducible first | refine eK q_ ?_ | refine eQ q_ ?_ | refine eG q_ ?_); clear q_) | (have q_ := part_Right1 t; (with_reducible first | refine eK q_ ?_ | refine eQ q_ ?_ | refine eG q_ ?_); clear q_) | (have q_ := term_small t.base; (with_reducible first | refine eK q_ ?_ | refine eQ q_ ?_ | refine eG q_ ?_); clear q_) | (have q_ := term_small t.sum; (with_reducible first | refine eK q_ ?_ | refine eQ q_ ?_ | refine eG q_ ?_); clear q_) | ((with_reducible first | refine eK hG ?_ | refine eQ hG ?_ | refine eG hG ?_)) | ((with_reducible first | refine eK hMv ?_ | refine eQ hMv ?_ | refine eG hMv ?_)) | ((with_reducible first | refine eK hP1 ?_ | refine eQ hP1 ?_ | refine eG hP1 ?_)) | ((with_reducible first | refine eK hMv2 ?_ | refine eQ hMv2 ?_ | refine eG hMv2 ?_)) | ((with_reducible first | refine eK hP2 ?_ | refine eQ hP2 ?_ | refine eG hP2 ?_)) | ((with_reducible first | refine cK term_symbols ?_ | refine cQ term_symbols ?_ | refine cG term_symbols ?_); (simp (disch := omega) only [push_cast, ↓zz, seval]); (fail_if_success (with_reducible change False))) | ((with_reducible first | refine cK hM ?_ | refine cQ hM ?_ | refine cG hM ?_); (simp (disch := omega) only [push_cast, ↓zz, seval]); (fail_if_success (with_reducible change False))) | (have q_ := part_Right (nth t.parts 0) 1; (with_reducible first | refine cK q_ ?_ | refine cQ q_ ?_ | refine cG q_ ?_); clear q_; (simp (disch := omega) only [push_cast, ↓zz, seval]); (fail_if_success (with_reducible change False))) | (have q_ := term_outer t; (with_reducible first | refine cK q_ ?_ | refine cQ q_ ?_ | refine cG q_ ?_); clear q_; (simp (disch := omega) only [push_cast, ↓zz, seval]); (fail_if_success (with_reducible change False))) | (have q_ := part_Right1 t; (with_reducible first | refine cK q_ ?_ | refine cQ q_ ?_ | refine cG q_ ?_); clear q_; (simp (disch := omega) only [push_cast, ↓zz, seval]); (fail_if_success (with_reducible change False))) | (have q_ := term_small t.base; (with_reducible first | refine cK q_ ?_ | refine cQ q_ ?_ | refine cG q_ ?_); clear q_; (simp (disch := omega) only [push_cast, ↓zz, seval]); (fail_if_success (with_reducible change False))) | (have q_ := term_small t.sum; (with_reducible first | refine cK q_ ?_ | refine cQ q_ ?_ | refine cG q_ ?_); clear q_; (simp (disch := omega) only [push_cast, ↓zz, seval]); (fail_if_success (with_reducible change False))) | ((with_reducible first | refine cK hG ?_ | refine cQ hG ?_ | refine cG hG ?_); (simp (disch := omega) only [push_cast, ↓zz, seval]); (fail_if_success (with_reducible change False))) | ((with_reducible first | refine cK hMv ?_ | refine cQ hMv ?_ | refine cG hMv ?_); (simp (disch := omega) only [push_cast, ↓zz, seval]); (fail_if_success (with_reducible change False))) | ((with_reducible first | refine cK hP1 ?_ | refine cQ hP1 ?_ | refine cG hP1 ?_); (simp (disch := omega) only [push_cast, ↓zz, seval]); (fail_if_success (with_reducible change False))) | ((with_reducible first | refine cK hMv2 ?_ | refine cQ hMv2 ?_ | refine cG hMv2 ?_); (simp (disch := omega) only [push_cast, ↓zz, seval]); (fail_if_success (with_reducible change False))) | ((with_reducible first | refine cK hP2 ?_ | refine cQ hP2 ?_ | refine cG hP2 ?_); (simp (disch := omega) only [push_cast, ↓zz, seval]); (fail_if_success (with_reducible change False))) | omega | (with_reducible intro _)))
  all_goals first
    | rfl
    | (rw [hfin (by omega) ‹_› ‹_› ‹_› ‹_›]; done)
    | trace_state
theorem slices_Equal (l m : List Part) (hl : l.length ≤ 1000000000000) : PC Try.prog 67 [partsV l, partsV m] (.bool (decide (l = m))) := by
  refine pc_w' c_slices_Equal_api_Part_api_Part ?_
  unfold B_slices_Equal_api_Part_api_Part
  (repeat' (first | (simp (disch := omega) only [push_cast, ↓zz, seval]) | (with_reducible refine And.intro ?_ ?_) | (with_reducible refine condW_split ?_ ?_ <;> intro hc <;> (try simp only [push_cast] at hc)) | (with_reducible refine guardW_split ?_ ?_ <;> intro hc <;> (try simp only [push_cast] at hc)) | omega | (with_reducible intro _)))
  · have : l ≠ m := by intro h; subst h; first | omega | simp_all
    simp [this]
  refine LoopK_T (T_loopR (fun (k : Nat) => k ≤ l.length ∧ decide (l = m) = decide (l.drop k = m.drop k)) (fun k => l.length - k)
    (fun k => [(0, partsV l), (1, partsV m), (12, .int .i64 l.length), (13, .int .i64 k)]) (fun s => []) (fun env _ => []) 0 (by simp) ?_ ?_)
  · (repeat' (first | (simp (disch := omega) only [push_cast, ↓zz, seval]) | (with_reducible refine And.intro ?_ ?_) | (with_reducible refine condW_split ?_ ?_ <;> intro hc <;> (try simp only [push_cast] at hc)) | (with_reducible refine guardW_split ?_ ?_ <;> intro hc <;> (try simp only [push_cast] at hc)) | omega | (with_reducible intro _)))
  rintro k ⟨hk, hr⟩
  refine W_T ?_
  (repeat' (first | (simp (disch := omega) only [push_cast, ↓zz, seval, part_eq_iff]) | (with_reducible refine And.intro ?_ ?_) | (with_reducible refine condW_split ?_ ?_ <;> intro hc <;> (try simp only [push_cast] at hc)) | (with_reducible refine guardW_split ?_ ?_ <;> intro hc <;> (try simp only [push_cast] at hc)) | omega | (with_reducible intro _)))
  all_goals first
    | (rw [hr, partsEq_at (by omega) (by omega)]; simp [*]; done)
    | (refine ⟨k + 1, ?_⟩
       (repeat' (first | (simp (disch := omega) only [push_cast, ↓zz, seval]) | (with_reducible refine And.intro ?_ ?_) | (with_reducible refine condW_split ?_ ?_ <;> intro hc <;> (try simp only [push_cast] at hc)) | (with_reducible refine guardW_split ?_ ?_ <;> intro hc <;> (try simp only [push_cast] at hc)) | omega | (with_reducible intro _)))
       rw [hr, partsEq_at (by omega) (by omega)]; simp [*]; done)
    | (rw [hr, List.drop_of_length_le (by omega), List.drop_of_length_le (by omega)]; simp; done)
    | trace_state
theorem term_alike (a b : Term) (x : Int) (ha : a.parts.length ≤ 1000000000000) (hb : b.parts.length ≤ 1000000000000) (hx : -2147483648 ≤ x ∧ x ≤ 2147483647) :
    PC Try.prog 66 [termV a, termV b, .int .i32 x] (.bool (eqP a b x)) := by
  have hv := term_Value a [x] ha (by simp) (by simp; omega)
  have hw := term_Value b [x] hb (by simp) (by simp; omega)
  refine pc_w' c_term_alike ?_
  unfold B_term_alike
  (repeat' (first | (simp (disch := omega) only [push_cast, ↓zz, seval]) | (with_reducible refine And.intro ?_ ?_) | (with_reducible refine condW_split ?_ ?_ <;> intro hc <;> (try simp only [push_cast] at hc)) | (with_reducible refine guardW_split ?_ ?_ <;> intro hc <;> (try simp only [push_cast] at hc)) | ((with_reducible first | refine eK hv ?_ | refine eQ hv ?_ | refine eG hv ?_)) | ((with_reducible first | refine eK hw ?_ | refine eQ hw ?_ | refine eG hw ?_)) | ((with_reducible first | refine cK hv ?_ | refine cQ hv ?_ | refine cG hv ?_); (simp (disch := omega) only [push_cast, ↓zz, seval]); (fail_if_success (with_reducible change False)); (repeat' (first | (with_reducible refine And.intro ?_ ?_) | omega)); (fail_if_success (any_goals (with_reducible change @Eq (List AV) _ _)))) | ((with_reducible first | refine cK hw ?_ | refine cQ hw ?_ | refine cG hw ?_); (simp (disch := omega) only [push_cast, ↓zz, seval]); (fail_if_success (with_reducible change False)); (repeat' (first | (with_reducible refine And.intro ?_ ?_) | omega)); (fail_if_success (any_goals (with_reducible change @Eq (List AV) _ _)))) | omega | (with_reducible intro _)))
  all_goals (simp [eqP, *])
theorem eq_fun1 (a b : Term) (x : Int) (ha : a.parts.length ≤ 1000000000000) (hb : b.parts.length ≤ 1000000000000) (hx : 0 ≤ x) (hx2 : x ≤ 1114111) :
    PC Try.prog 65 [.int .i32 x, .cptr (termV a), .cptr (termV b)] (.bool (eqP a b x)) := by
  refine pc_w' c_term_Equal_1 ?_
  unfold B_term_Equal_1
  (repeat' (first | (simp (disch := omega) only [push_cast, ↓zz, seval]) | (with_reducible refine And.intro ?_ ?_) | (with_reducible refine condW_split ?_ ?_ <;> intro hc <;> (try simp only [push_cast] at hc)) | (with_reducible refine guardW_split ?_ ?_ <;> intro hc <;> (try simp only [push_cast] at hc)) | (have q_ := term_alike a b x ha hb (by omega); (with_reducible first | refine eK q_ ?_ | refine eQ q_ ?_ | refine eG q_ ?_); clear q_) | (have q_ := term_alike a b x ha hb (by omega); (with_reducible first | refine cK q_ ?_ | refine cQ q_ ?_ | refine cG q_ ?_); clear q_; (simp (disch := omega) only [push_cast, ↓zz, seval]); (fail_if_success (with_reducible change False))) | omega | (with_reducible intro _)))
theorem eq_fun2 (a b : Term) (x : Int) (ha : a.parts.length ≤ 1000000000000) (hb : b.parts.length ≤ 1000000000000) (hx : 0 ≤ x) (hx2 : x ≤ 1114111) :
    PC Try.prog 68 [.int .i32 x, .cptr (termV a), .cptr (termV b)] (.bool (eqP a b x)) := by
  refine pc_w' c_term_Equal_2 ?_
  unfold B_term_Equal_2
  (repeat' (first | (simp (disch := omega) only [push_cast, ↓zz, seval]) | (with_reducible refine And.intro ?_ ?_) | (with_reducible refine condW_split ?_ ?_ <;> intro hc <;> (try simp only [push_cast] at hc)) | (with_reducible refine guardW_split ?_ ?_ <;> intro hc <;> (try simp only [push_cast] at hc)) | (have q_ := term_alike a b x ha hb (by omega); (with_reducible first | refine eK q_ ?_ | refine eQ q_ ?_ | refine eG q_ ?_); clear q_) | (have q_ := term_alike a b x ha hb (by omega); (with_reducible first | refine cK q_ ?_ | refine cQ q_ ?_ | refine cG q_ ?_); clear q_; (simp (disch := omega) only [push_cast, ↓zz, seval]); (fail_if_success (with_reducible change False))) | omega | (with_reducible intro _)))
theorem eq_comm' (a b : Term) : eqP a b = eqP b a := by
  funext x
  rw [Bool.eq_iff_iff]
  simp only [eqP, Bool.and_eq_true, decide_eq_true_eq]
  constructor
  · rintro ⟨h1, h2, h3⟩; exact ⟨h2, h1, h3.symm⟩
  · rintro ⟨h1, h2, h3⟩; exact ⟨h2, h1, h3.symm⟩
theorem value_none {t : Term} {x : Int} (h : t.parts = []) (hx : 0 ≤ x ∧ x ≤ 1114111) : valueT t [x] = valueT t [0] := by
  have h1 : [x].all symB = true := by simp [symB]; omega
  have h2 : [(0 : Int)].all symB = true := by simp [symB]
  simp only [valueT, h1, h2, h, sumP]
theorem eq_nil {a b : Term} {s : List Span} (h : ∀ x, 0 ≤ x ∧ x ≤ 1114111 → eqP a b x = false) : eqT a b s = [] := by
  obtain ⟨h1, h2⟩ := symI_spec s
  obtain ⟨b1, b2⟩ := gather_spec (eqP a b) h1
  refine plain_ext b1 ⟨by simp, by simp⟩ fun v => ?_
  rw [show memL (eqT a b s) v ↔ _ from b2 v]
  constructor
  · rintro ⟨h3, h4⟩
    rw [h v ((h2 v).1 h3).1] at h4; cases h4
  · exact fun h => absurd h (memL_nil _)
theorem sym_sym (s : List Span) : symI (symI s) = symI s := by
  obtain ⟨h1, h2⟩ := symI_spec s
  obtain ⟨b1, b2⟩ := symI_spec (symI s)
  refine plain_ext b1 h1 fun v => ?_
  rw [b2 v, h2 v]
  constructor
  · exact fun h => h.2
  · exact fun h => ⟨h.1, h⟩
theorem eq_const {a b : Term} {s : List Span} {v : Int} (ha : a.parts = []) (hv : valueT a [0] = some v) (hb : -1073741824 ≤ v ∧ v ≤ 1073741824) : preT b s [⟨v, v⟩] = eqT a b s := by
  refine gather_ext (symI_spec s).1 fun x hx => ?_
  have hxs := (((symI_spec s).2 x).1 hx).1
  rw [preP, eqP, value_none ha hxs, hv]
  simp only [Option.isSome_some, Bool.true_and, Option.getD_some]
  congr 1
  rw [Bool.eq_iff_iff, hasI_iff, memL_cons, decide_eq_true_eq]
  simp only [memL_nil, or_false]
  omega
theorem get_some {o : Option Int} (h : o.isSome = true) : o = some (o.getD 0) := by cases o <;> simp_all
set_option maxHeartbeats 2000000 in
theorem term_Equal0 (a b : Term) (s : List Span) (h0 : a.parts.length = 0) (hb : b.parts.length ≤ 1000000000000) (hs : s.length ≤ 40000) : PC Try.prog 31 [termV a, termV b, spansV s] (spansV (eqT a b s)) := by
  have h0' : a.parts = [] := List.eq_nil_of_length_eq_zero h0
  have hM := span_Meet s [⟨0, 1114111⟩] (by omega) (by simp)
  rw [sym_meet] at hM
  have hsl2 : (symI s).length ≤ 40001 := by
    rw [← sym_meet]
    have h1 := meet_len (normI s) (normI [⟨0, 1114111⟩])
    have h2 := normI_len s
    have h3 := normI_len [(⟨0, 1114111⟩ : Span)]
    simp only [List.length_singleton] at h3
    omega
  have hG := term_gather (symI s) 65 [.cptr (termV a), .cptr (termV b)] (by simp [pureL, AV.pure, pure_parts, pure_spans]) (eqP a b) (by omega) (by rw [sym_norm]; exact symI_syms s) (fun x h1 h2 => eq_fun1 a b x (by omega) hb h1 h2)
  rw [sym_norm] at hG
  have hv := term_Value a [0] (by omega) (by simp) (by simp)
  have hP := term_Pre b (symI s) [⟨(valueT a [0]).getD 0, (valueT a [0]).getD 0⟩] hb (by omega) (by simp)
  refine pc_w' c_term_Equal ?_
  unfold B_term_Equal
  (repeat' (first | (simp (disch := omega) only [push_cast, ↓zz, seval, h0]) | (with_reducible refine And.intro ?_ ?_) | (with_reducible refine condW_split ?_ ?_ <;> intro hc <;> (try simp only [push_cast] at hc)) | (with_reducible refine guardW_split ?_ ?_ <;> intro hc <;> (try simp only [push_cast] at hc)) | ((with_reducible first | refine eK term_symbols ?_ | refine eQ term_symbols ?_ | refine eG term_symbols ?_)) | ((with_reducible first | refine eK hM ?_ | refine eQ hM ?_ | refine eG hM ?_)) | ((with_reducible first | refine eK hv ?_ | refine eQ hv ?_ | refine eG hv ?_)) | ((with_reducible first | refine eK hG ?_ | refine eQ hG ?_ | refine eG hG ?_)) | ((with_reducible first | refine eK hP ?_ | refine eQ hP ?_ | refine eG hP ?_)) | ((with_reducible first | refine cK term_symbols ?_ | refine cQ term_symbols ?_ | refine cG term_symbols ?_); (simp (disch := omega) only [push_cast, ↓zz, seval, h0]); (fail_if_success (with_reducible change False))) | ((with_reducible first | refine cK hM ?_ | refine cQ hM ?_ | refine cG hM ?_); (simp (disch := omega) only [push_cast, ↓zz, seval, h0]); (fail_if_success (with_reducible change False))) | ((with_reducible first | refine cK hv ?_ | refine cQ hv ?_ | refine cG hv ?_); (simp (disch := omega) only [push_cast, ↓zz, seval, h0]); (fail_if_success (with_reducible change False))) | ((with_reducible first | refine cK hG ?_ | refine cQ hG ?_ | refine cG hG ?_); (simp (disch := omega) only [push_cast, ↓zz, seval, h0]); (fail_if_success (with_reducible change False))) | ((with_reducible first | refine cK hP ?_ | refine cQ hP ?_ | refine cG hP ?_); (simp (disch := omega) only [push_cast, ↓zz, seval, h0]); (fail_if_success (with_reducible change False))) | omega | (with_reducible intro _)))
  all_goals first
    | rfl
    | (refine eq_nil fun x hx => ?_
       rw [eqP, value_none h0' hx, ‹(valueT a [0]).isSome = false›]; rfl)
    | (have hvv := get_some ‹(valueT a [0]).isSome = true›
       rw [show preT b (symI s) [⟨(valueT a [0]).getD 0, (valueT a [0]).getD 0⟩] = preT b s [⟨(valueT a [0]).getD 0, (valueT a [0]).getD 0⟩] by rw [preT, preT, sym_sym], eq_const h0' hvv (by omega)]; done)
    | trace_state
theorem eqT_comm (a b : Term) (s : List Span) : eqT a b s = eqT b a s := by rw [eqT, eqT, eq_comm']
theorem eqT_sym (a b : Term) (s : List Span) : eqT a b (symI s) = eqT a b s := by rw [eqT, eqT, sym_sym]
theorem eq_same {a b : Term} {s : List Span} (hab : a = b) (ha : numbersB a = true) : preT a s [⟨-1073741824, 1073741824⟩] = eqT a b s := by
  subst hab
  refine gather_ext (symI_spec s).1 fun x hx => ?_
  rw [preP, eqP]
  cases hv : valueT a [x] with
  | none => rfl
  | some v =>
    obtain ⟨_, u, _, h2, h3, rfl⟩ := value_some hv
    simp only [numbersB, Bool.and_eq_true] at ha
    have hb := small_bd ha.1.1.1
    obtain ⟨g1, g2⟩ := valB_spec h2
    have := valP_small g1 (x := u) (by omega)
    simp only [Option.isSome_some, Option.getD_some, Bool.true_and, decide_true]
    rw [hasI_iff, memL_cons, wr_in (by omega)]
    simp only [memL_nil, or_false]
    omega
theorem eq_plain {a b : Term} {s : List Span} (hp : a.parts = b.parts) (hl : a.parts.length = 1) (hw : nth a.parts 0 = ⟨0, 0, 21, 0⟩) (ha : plainB a = true) (hb : plainB b = true) (na : numbersB a = true) (nb : numbersB b = true) (hne : ¬ (a.sum = b.sum ∧ a.base = b.base)) : eqT a b s = [] := by
  have hpa : a.parts = [⟨0, 0, 21, 0⟩] := by
    match hq : a.parts, hl with
    | [p], _ => rw [hq] at hw; simp only [nth, List.getD_cons_zero] at hw; rw [hw]
  obtain ⟨a1, a2⟩ := plain_spec ha
  obtain ⟨b1, b2⟩ := plain_spec hb
  simp only [numbersB, Bool.and_eq_true] at na nb
  refine eq_nil fun x hx => ?_
  have hr : rightB ⟨0, 0, 21, 0⟩ 1 = true := by decide
  have w0 := whole_val (p := ⟨0, 0, 21, 0⟩) (x := x) (by decide) (by omega)
  have v1 := value_one hpa hr na.1.2 na.1.1.2 na.1.1.1 hx
  have v2 := value_one (hp ▸ hpa) hr nb.1.2 nb.1.1.2 nb.1.1.1 hx
  rw [w0.2.2] at v1 v2
  rw [eqP, v1, v2]
  by_cases h1 : 0 ≤ a.sum + x ∧ a.sum + x ≤ 1114111
  · by_cases h2 : 0 ≤ b.sum + x ∧ b.sum + x ≤ 1114111
    · rw [if_pos h1, if_pos h2, (whole_val a2 (x := a.sum + x) (by omega)).2.2, (whole_val b2 (x := b.sum + x) (by omega)).2.2]
      simp only [Option.isSome_some, Option.getD_some, Bool.true_and, decide_eq_false_iff_not]
      omega
    · rw [if_neg h2]; simp
  · rw [if_neg h1]; rfl
set_option maxHeartbeats 4000000 in
theorem term_Equal (a b : Term) (s : List Span) (ha : a.parts.length ≤ 100000000000) (hb : b.parts.length ≤ 100000000000) (hs : s.length ≤ 30000) : PC Try.prog 31 [termV a, termV b, spansV s] (spansV (eqT a b s)) := by
  by_cases h0 : a.parts.length = 0
  · exact term_Equal0 a b s h0 (by omega) (by omega)
  have hM := span_Meet s [⟨0, 1114111⟩] (by omega) (by simp)
  rw [sym_meet] at hM
  have hsl2 : (symI s).length ≤ 30001 := by
    rw [← sym_meet]
    have h1 := meet_len (normI s) (normI [⟨0, 1114111⟩])
    have h2 := normI_len s
    have h3 := normI_len [(⟨0, 1114111⟩ : Span)]
    simp only [List.length_singleton] at h3
    omega
  have h0i : ¬ (a.parts.length : Int) = 0 := by omega
  by_cases hb0 : b.parts.length = 0
  · have hE := term_Equal0 b a (symI s) hb0 (by omega) (by omega)
    rw [eqT_comm, eqT_sym] at hE
    refine pc_w' c_term_Equal ?_
    unfold B_term_Equal
    (repeat' (first | (simp (disch := omega) only [push_cast, ↓zz, seval, h0i, hb0]) | (with_reducible refine And.intro ?_ ?_) | (with_reducible refine condW_split ?_ ?_ <;> intro hc <;> (try simp only [push_cast] at hc)) | (with_reducible refine guardW_split ?_ ?_ <;> intro hc <;> (try simp only [push_cast] at hc)) | ((with_reducible first | refine eK term_symbols ?_ | refine eQ term_symbols ?_ | refine eG term_symbols ?_)) | ((with_reducible first | refine eK hM ?_ | refine eQ hM ?_ | refine eG hM ?_)) | ((with_reducible first | refine eK hE ?_ | refine eQ hE ?_ | refine eG hE ?_)) | ((with_reducible first | refine cK term_symbols ?_ | refine cQ term_symbols ?_ | refine cG term_symbols ?_); (simp (disch := omega) only [push_cast, ↓zz, seval, h0i, hb0]); (fail_if_success (with_reducible change False))) | ((with_reducible first | refine cK hM ?_ | refine cQ hM ?_ | refine cG hM ?_); (simp (disch := omega) only [push_cast, ↓zz, seval, h0i, hb0]); (fail_if_success (with_reducible change False))) | ((with_reducible first | refine cK hE ?_ | refine cQ hE ?_ | refine cG hE ?_); (simp (disch := omega) only [push_cast, ↓zz, seval, h0i, hb0]); (fail_if_success (with_reducible change False))) | omega | (with_reducible intro _)))
  have hb0i : ¬ (b.parts.length : Int) = 0 := by omega
  have hG := term_gather (symI s) 68 [.cptr (termV a), .cptr (termV b)] (by simp [pureL, AV.pure, pure_parts, pure_spans]) (eqP a b) (by omega) (by rw [sym_norm]; exact symI_syms s) (fun x h1 h2 => eq_fun2 a b x (by omega) (by omega) h1 h2)
  rw [sym_norm] at hG
  have hP := term_Pre a (symI s) [⟨-1073741824, 1073741824⟩] (by omega) (by omega) (by simp)
  refine pc_w' c_term_Equal ?_
  unfold B_term_Equal
  (repeat' (first | (simp (disch := omega) only [push_cast, ↓zz, seval, h0i, hb0i]) | (with_reducible refine And.intro ?_ ?_) | (with_reducible refine condW_split ?_ ?_ <;> intro hc <;> (try simp only [push_cast] at hc)) | (with_reducible refine guardW_split ?_ ?_ <;> intro hc <;> (try simp only [push_cast] at hc)) | ((with_reducible first | refine eK term_symbols ?_ | refine eQ term_symbols ?_ | refine eG term_symbols ?_)) | ((with_reducible first | refine eK hM ?_ | refine eQ hM ?_ | refine eG hM ?_)) | ((with_reducible first | refine eK hP ?_ | refine eQ hP ?_ | refine eG hP ?_)) | ((with_reducible first | refine eK hG ?_ | refine eQ hG ?_ | refine eG hG ?_)) | (have q_ := term_outer a; (with_reducible first | refine eK q_ ?_ | refine eQ q_ ?_ | refine eG q_ ?_); clear q_) | (have q_ := term_outer b; (with_reducible first | refine eK q_ ?_ | refine eQ q_ ?_ | refine eG q_ ?_); clear q_) | (have q_ := slices_Equal a.parts b.parts (by omega); (with_reducible first | refine eK q_ ?_ | refine eQ q_ ?_ | refine eG q_ ?_); clear q_) | (have q_ := term_numbers a (by omega); (with_reducible first | refine eK q_ ?_ | refine eQ q_ ?_ | refine eG q_ ?_); clear q_) | (have q_ := term_numbers b (by omega); (with_reducible first | refine eK q_ ?_ | refine eQ q_ ?_ | refine eG q_ ?_); clear q_) | (have q_ := term_plain a; (with_reducible first | refine eK q_ ?_ | refine eQ q_ ?_ | refine eG q_ ?_); clear q_) | (have q_ := term_plain b; (with_reducible first | refine eK q_ ?_ | refine eQ q_ ?_ | refine eG q_ ?_); clear q_) | (have q_ := part_Whole 0; (with_reducible first | refine eK q_ ?_ | refine eQ q_ ?_ | refine eG q_ ?_); clear q_) | ((with_reducible first | refine cK term_symbols ?_ | refine cQ term_symbols ?_ | refine cG term_symbols ?_); (simp (disch := omega) only [push_cast, ↓zz, seval, h0i, hb0i]); (fail_if_success (with_reducible change False))) | ((with_reducible first | refine cK hM ?_ | refine cQ hM ?_ | refine cG hM ?_); (simp (disch := omega) only [push_cast, ↓zz, seval, h0i, hb0i]); (fail_if_success (with_reducible change False))) | ((with_reducible first | refine cK hP ?_ | refine cQ hP ?_ | refine cG hP ?_); (simp (disch := omega) only [push_cast, ↓zz, seval, h0i, hb0i]); (fail_if_success (with_reducible change False))) | ((with_reducible first | refine cK hG ?_ | refine cQ hG ?_ | refine cG hG ?_); (simp (disch := omega) only [push_cast, ↓zz, seval, h0i, hb0i]); (fail_if_success (with_reducible change False))) | (have q_ := term_outer a; (with_reducible first | refine cK q_ ?_ | refine cQ q_ ?_ | refine cG q_ ?_); clear q_; (simp (disch := omega) only [push_cast, ↓zz, seval, h0i, hb0i]); (fail_if_success (with_reducible change False)); (repeat' (first | (with_reducible refine And.intro ?_ ?_) | omega)); (fail_if_success (any_goals (with_reducible change @Eq (List AV) _ _)))) | (have q_ := term_outer b; (with_reducible first | refine cK q_ ?_ | refine cQ q_ ?_ | refine cG q_ ?_); clear q_; (simp (disch := omega) only [push_cast, ↓zz, seval, h0i, hb0i]); (fail_if_success (with_reducible change False)); (repeat' (first | (with_reducible refine And.intro ?_ ?_) | omega)); (fail_if_success (any_goals (with_reducible change @Eq (List AV) _ _)))) | (have q_ := slices_Equal a.parts b.parts (by omega); (with_reducible first | refine cK q_ ?_ | refine cQ q_ ?_ | refine cG q_ ?_); clear q_; (simp (disch := omega) only [push_cast, ↓zz, seval, h0i, hb0i]); (fail_if_success (with_reducible change False))) | (have q_ := term_numbers a (by omega); (with_reducible first | refine cK q_ ?_ | refine cQ q_ ?_ | refine cG q_ ?_); clear q_; (simp (disch := omega) only [push_cast, ↓zz, seval, h0i, hb0i]); (fail_if_success (with_reducible change False)); (repeat' (first | (with_reducible refine And.intro ?_ ?_) | omega)); (fail_if_success (any_goals (with_reducible change @Eq (List AV) _ _)))) | (have q_ := term_numbers b (by omega); (with_reducible first | refine cK q_ ?_ | refine cQ q_ ?_ | refine cG q_ ?_); clear q_; (simp (disch := omega) only [push_cast, ↓zz, seval, h0i, hb0i]); (fail_if_success (with_reducible change False)); (repeat' (first | (with_reducible refine And.intro ?_ ?_) | omega)); (fail_if_success (any_goals (with_reducible change @Eq (List AV) _ _)))) | (have q_ := term_plain a; (with_reducible first | refine cK q_ ?_ | refine cQ q_ ?_ | refine cG q_ ?_); clear q_; (simp (disch := omega) only [push_cast, ↓zz, seval, h0i, hb0i]); (fail_if_success (with_reducible change False)); (repeat' (first | (with_reducible refine And.intro ?_ ?_) | omega)); (fail_if_success (any_goals (with_reducible change @Eq (List AV) _ _)))) | (have q_ := term_plain b; (with_reducible first | refine cK q_ ?_ | refine cQ q_ ?_ | refine cG q_ ?_); clear q_; (simp (disch := omega) only [push_cast, ↓zz, seval, h0i, hb0i]); (fail_if_success (with_reducible change False)); (repeat' (first | (with_reducible refine And.intro ?_ ?_) | omega)); (fail_if_success (any_goals (with_reducible change @Eq (List AV) _ _)))) | (have q_ := part_Whole 0; (with_reducible first | refine cK q_ ?_ | refine cQ q_ ?_ | refine cG q_ ?_); clear q_; (simp (disch := omega) only [push_cast, ↓zz, seval, h0i, hb0i]); (fail_if_success (with_reducible change False))) | omega | (with_reducible intro _)))
  all_goals first
    | rfl
    | (have e1 : preT a (symI s) [⟨-1073741824, 1073741824⟩] = preT a s [⟨-1073741824, 1073741824⟩] := by rw [preT, preT, sym_sym]
       have hab : a = b := by cases a; cases b; simp_all
       rw [e1, eq_same hab ‹_›]; done)
    | (refine eq_plain ‹a.parts = b.parts› (by omega) ?_ ‹plainB a = true› ‹plainB b = true› ‹numbersB a = true› ‹numbersB b = true› (fun h => absurd h.2 (by first | assumption | exact fun _ => absurd h.1 (by assumption)))
       have h := hc
       rw [show (decide ((nth a.parts 0).at_ = 0) && (decide ((nth a.parts 0).drop = 0) && (decide ((nth a.parts 0).take = 21) && decide ((nth a.parts 0).up = 0)))) = decide (nth a.parts 0 = ⟨0, 0, 21, 0⟩) from part_eq_iff _ ⟨0, 0, 21, 0⟩] at h
       exact of_decide_eq_true h)
    | trace_state
end Go.Proofs.Ytdjbcenfgceejaa
set_option linter.unusedSimpArgs false
set_option linter.unusedVariables false
namespace Go.Proofs.Ytdjbcenfgceejaa
open Abs
end Go.Proofs.Ytdjbcenfgceejaa
set_option linter.unusedSimpArgs false
set_option linter.unusedVariables false
namespace Go.Proofs.Ytdjbcenfgceejaa
open Abs
def sumS (x y : Span) : Span := ⟨x.lo + y.lo, x.hi + y.hi⟩
def rowsP (a b : List Span) : List Span := a.flatMap fun x => b.map (sumS x)
def plusL (a b : List Span) : List Span := normI (rowsP a b)
theorem rowsP_cons (x : Span) (a b : List Span) : rowsP (x :: a) b = b.map (sumS x) ++ rowsP a b := rfl
theorem normI_same {l m : List Span} (h : ∀ v, -1073741824 ≤ v ∧ v ≤ 1073741824 → (memL l v ↔ memL m v)) : normI l = normI m := by
  obtain ⟨p1, p2⟩ := normI_plain l
  obtain ⟨q1, q2⟩ := normI_plain m
  refine plain_ext p1 q1 fun v => ?_
  rw [p2, q2]
  constructor
  · rintro ⟨h1, h2, h3⟩; exact ⟨(h v ⟨h2, h3⟩).1 h1, h2, h3⟩
  · rintro ⟨h1, h2, h3⟩; exact ⟨(h v ⟨h2, h3⟩).2 h1, h2, h3⟩
theorem normI_app {l m : List Span} : normI (normI l ++ m) = normI (l ++ m) := normI_same fun v hv => by
  rw [memL_app, memL_app, (normI_plain l).2 v]
  constructor
  · rintro (⟨h, _⟩ | h)
    · exact .inl h
    · exact .inr h
  · rintro (h | h)
    · exact .inl ⟨h, hv⟩
    · exact .inr h
theorem plain_len : ∀ {l : List Span} {f : Nat}, Plain l → (∀ s ∈ l, (f : Int) - 1073741824 ≤ s.lo ∧ s.hi ≤ 1073741824) → f ≤ 2147483649 → l.length + f ≤ 2147483649
  | [], f, _, _, hf => by simpa using hf
  | s :: l, f, h, hb, hf => by
    have h1 := hb s (by simp)
    have h2 := h.head
    have := plain_len (l := l) (f := (s.hi + 1073741825).toNat) h.tail (fun t ht => by
      have := (List.pairwise_cons.1 h.2).1 t ht
      have := hb t (by simp [ht])
      omega) (by omega)
    simp only [List.length_cons]
    omega
theorem normI_short (l : List Span) : (normI l).length ≤ 2147483649 := by
  have := plain_len (f := 0) (normI_plain l).1 (fun s hs => by have := normI_bounds l s hs; simp only [Int.ofNat_zero]; omega) (by omega)
  omega
def Bd (l : List Span) : Prop := ∀ s ∈ l, (-1099511627776 ≤ s.lo ∧ s.lo ≤ 1099511627776) ∧ -1099511627776 ≤ s.hi ∧ s.hi ≤ 1099511627776
theorem span_NormT (l : List Span) (hl : l.length ≤ 1000000000000) : ACalls Try.prog 80 [spansV l] (Abs.hl []) fun y H' => y = .ref 0 1 0 (normI l).length ∧ H' = Abs.hl [⟨2, 1, false, (normI l).map spanV⟩] :=
  acalls_trunc (by omega) ((span_NormA l hl).mono fun y H' ⟨rest, h1, h2⟩ => ⟨rest.map spanV, h1, by rw [h2, List.map_append]⟩)
theorem term_plus (a b : List Span) (la : a.length ≤ 3000000000) (lb : b.length ≤ 3000000000) (ha : Bd a) (hb : Bd b) : PC Try.prog 91 [spansV a, spansV b] (spansV (plusL a b)) := by
  refine pc_w' c_term_plus ?_
  unfold B_term_plus
  (repeat' (first | (simp (disch := omega) only [push_cast, ↓zz, seval]) | (with_reducible refine And.intro ?_ ?_) | (with_reducible refine condW_split ?_ ?_ <;> intro hc <;> (try simp only [push_cast] at hc)) | (with_reducible refine guardW_split ?_ ?_ <;> intro hc <;> (try simp only [push_cast] at hc)) | omega | (with_reducible intro _)))
  refine LoopK_T (T_loopR (fun (s : Nat × List Span) => s.1 ≤ a.length ∧ s.2.length ≤ 2147483649 ∧ plusL a b = normI (s.2 ++ rowsP (a.drop s.1) b)) (fun s => a.length - s.1)
    (fun s => [(1, spansV b), (5, .ref 0 1 0 s.2.length), (10, spansV a), (11, .int .i64 a.length), (12, .int .i64 s.1)]) (fun s => [⟨2, 1, false, s.2.map spanV⟩]) (fun env _ => [srcOf 2 (env 5)]) (0, []) ⟨by simp, by simp, by simp [plusL]⟩ ?_ ?_)
  · (repeat' (first | (simp (disch := omega) only [push_cast, ↓zz, seval]) | (with_reducible refine And.intro ?_ ?_) | (with_reducible refine condW_split ?_ ?_ <;> intro hc <;> (try simp only [push_cast] at hc)) | (with_reducible refine guardW_split ?_ ?_ <;> intro hc <;> (try simp only [push_cast] at hc)) | omega | (with_reducible intro _)))
  rintro ⟨k, out⟩ ⟨h1, h2, h3⟩
  simp only at h1 h2 h3
  rcases Nat.lt_or_ge k a.length with hk | hk
  · rw [drop_at hk, rowsP_cons, ← List.append_assoc] at h3
    have hx := ha _ (nth_mem hk)
    generalize hxe : nth a k = x at *
    refine W_T ?_
    (repeat' (first | (simp (disch := omega) only [push_cast, ↓zz, seval, hxe]) | (with_reducible refine And.intro ?_ ?_) | (with_reducible refine condW_split ?_ ?_ <;> intro hc <;> (try simp only [push_cast] at hc)) | (with_reducible refine guardW_split ?_ ?_ <;> intro hc <;> (try simp only [push_cast] at hc)) | omega | (with_reducible intro _)))
    refine LoopK_T (T_loopR (fun (s : Nat × List Span) => s.1 ≤ b.length ∧ s.2 = out ++ (b.take s.1).map (sumS x) ∧ s.2.length = out.length + s.1) (fun s => b.length - s.1)
      (fun s => [(1, spansV b), (5, .ref 0 1 0 s.2.length), (7, .ptr 1 1 0 0), (10, spansV a), (11, .int .i64 a.length), (12, .int .i64 k), (16, spansV b), (17, .int .i64 b.length), (18, .int .i64 s.1)]) (fun s => [⟨2, 1, false, s.2.map spanV⟩, ⟨2, 1, true, [spanV x]⟩]) (fun env _ => [srcOf 2 (env 5), srcOf 2 (env 7)]) (0, out) ⟨by simp, by simp, by simp⟩ ?_ ?_)
    · (repeat' (first | (simp (disch := omega) only [push_cast, ↓zz, seval]) | (with_reducible refine And.intro ?_ ?_) | (with_reducible refine condW_split ?_ ?_ <;> intro hc <;> (try simp only [push_cast] at hc)) | (with_reducible refine guardW_split ?_ ?_ <;> intro hc <;> (try simp only [push_cast] at hc)) | omega | (with_reducible intro _)))
    rintro ⟨j, o⟩ ⟨g1, g2, g3⟩
    simp only at g1 g2 g3
    rcases Nat.lt_or_ge j b.length with hj | hj
    · have hy := hb _ (nth_mem hj)
      have hstep : out ++ (b.take (j + 1)).map (sumS x) = o ++ [sumS x (nth b j)] := by rw [take_at hj, List.map_append, ← List.append_assoc, ← g2]; rfl
      generalize hye : nth b j = y at *
      have hw1 : IntKind.i64.wrap (x.lo + y.lo) = x.lo + y.lo := IntWalk.i64_in _ (by omega)
      have hw2 : IntKind.i64.wrap (x.hi + y.hi) = x.hi + y.hi := IntWalk.i64_in _ (by omega)
      clear g2
      refine W_T ?_
      (repeat' (first | (simp (disch := omega) only [push_cast, ↓zz, seval, hye, hw1, hw2]) | (with_reducible refine And.intro ?_ ?_) | (with_reducible refine condW_split ?_ ?_ <;> intro hc <;> (try simp only [push_cast] at hc)) | (with_reducible refine guardW_split ?_ ?_ <;> intro hc <;> (try simp only [push_cast] at hc)) | omega | (with_reducible intro _)))
      refine ⟨(j + 1, o ++ [sumS x y]), ?_⟩
      (repeat' (first | (simp (disch := omega) only [push_cast, ↓zz, seval, sumS, hstep]) | (with_reducible refine And.intro ?_ ?_) | (with_reducible refine condW_split ?_ ?_ <;> intro hc <;> (try simp only [push_cast] at hc)) | (with_reducible refine guardW_split ?_ ?_ <;> intro hc <;> (try simp only [push_cast] at hc)) | omega | (with_reducible intro _)))
    · obtain rfl : j = b.length := by omega
      rw [List.take_length] at g2
      rw [← g2] at h3
      clear g2
      have hno := normI_short o
      have hap := @normI_app o (rowsP (a.drop (k + 1)) b)
      refine W_T ?_
      (repeat' (first | (simp (disch := omega) only [push_cast, ↓zz, seval]) | (with_reducible refine And.intro ?_ ?_) | (with_reducible refine condW_split ?_ ?_ <;> intro hc <;> (try simp only [push_cast] at hc)) | (with_reducible refine guardW_split ?_ ?_ <;> intro hc <;> (try simp only [push_cast] at hc)) | omega | (with_reducible intro _)))
      · (refine at_give (ys := [spansV o]) ?_ ?_ ?_ <;> (simp (disch := omega) only [push_cast, ↓zz, seval]))
        (refine at_call [] (span_NormT o (by omega)) (by decide) (by simp) (by (simp (disch := omega) only [push_cast, ↓zz, seval])) (by (simp (disch := omega) only [push_cast, ↓zz, seval])) (by (simp (disch := omega) only [push_cast, ↓zz, seval])) (by (simp (disch := omega) only [push_cast, ↓zz, seval, List.mem_cons, List.not_mem_nil, or_false, forall_eq_or_imp, forall_eq, List.forall_mem_nil])) ?_)
        rintro y H' ⟨rfl, rfl⟩
        refine ⟨_, rfl, by simp, ?_⟩
        (repeat' (first | (simp (disch := omega) only [push_cast, ↓zz, seval]) | (with_reducible refine And.intro ?_ ?_) | (with_reducible refine condW_split ?_ ?_ <;> intro hc <;> (try simp only [push_cast] at hc)) | (with_reducible refine guardW_split ?_ ?_ <;> intro hc <;> (try simp only [push_cast] at hc)) | omega | (with_reducible intro _)))
        refine ⟨(k + 1, normI o), ?_⟩
        (repeat' (first | (simp (disch := omega) only [push_cast, ↓zz, seval, hap]) | (with_reducible refine And.intro ?_ ?_) | (with_reducible refine condW_split ?_ ?_ <;> intro hc <;> (try simp only [push_cast] at hc)) | (with_reducible refine guardW_split ?_ ?_ <;> intro hc <;> (try simp only [push_cast] at hc)) | omega | (with_reducible intro _)))
      · refine ⟨(k + 1, o), ?_⟩
        (repeat' (first | (simp (disch := omega) only [push_cast, ↓zz, seval]) | (with_reducible refine And.intro ?_ ?_) | (with_reducible refine condW_split ?_ ?_ <;> intro hc <;> (try simp only [push_cast] at hc)) | (with_reducible refine guardW_split ?_ ?_ <;> intro hc <;> (try simp only [push_cast] at hc)) | omega | (with_reducible intro _)))
  · rw [List.drop_of_length_le hk, show rowsP [] b = [] from rfl, List.append_nil] at h3
    have hN := span_Norm out (by omega)
    refine W_T ?_
    (repeat' (first | (simp (disch := omega) only [push_cast, ↓zz, seval, h3, grps_lst]) | (with_reducible refine And.intro ?_ ?_) | (with_reducible refine condW_split ?_ ?_ <;> intro hc <;> (try simp only [push_cast] at hc)) | (with_reducible refine guardW_split ?_ ?_ <;> intro hc <;> (try simp only [push_cast] at hc)) | ((with_reducible first | refine eK hN ?_ | refine eQ hN ?_ | refine eG hN ?_)) | ((with_reducible first | refine cK hN ?_ | refine cQ hN ?_ | refine cG hN ?_); (simp (disch := omega) only [push_cast, ↓zz, seval, h3, grps_lst]); (fail_if_success (with_reducible change False))) | omega | (with_reducible intro _)))
    all_goals trace_state
end Go.Proofs.Ytdjbcenfgceejaa
set_option linter.unusedSimpArgs false
set_option linter.unusedVariables false
namespace Go.Proofs.Ytdjbcenfgceejaa
open Abs
def totV (l : List Part) (x : Int) : Int := (l.map fun p => valP p x).sum
theorem totV_nil (x : Int) : totV [] x = 0 := rfl
theorem totV_snoc (l : List Part) (p : Part) (x : Int) : totV (l ++ [p]) x = totV l x + valP p x := by simp [totV]
theorem totV_bd {x : Int} (hx : 0 ≤ x ∧ x ≤ 2097151) : ∀ {l : List Part}, (∀ p ∈ l, bitsB p = true) → 0 ≤ totV l x ∧ totV l x ≤ l.length * 66060288
  | [], _ => by simp [totV]
  | p :: l, h => by
    have h1 := valP_small (h p (by simp)) hx
    have h2 := totV_bd hx (l := l) fun q hq => h q (by simp [hq])
    have e : totV (p :: l) x = valP p x + totV l x := by simp [totV]
    rw [e, List.length_cons]
    push_cast
    omega
def togF (l : List Part) (out : List Span) (x : Int) : List Span := addS out ⟨totV l x, totV l x⟩
def togL (l : List Part) (s : List Span) : List Span :=
  if l.length = 1 then imgL (nth l 0) s else normI ((numsI (normI s)).foldl (togF l) [])
theorem term_together (l : List Part) (s : List Span) (hl : l.length ≤ 1000) (hb : ∀ p ∈ l, bitsB p = true) (hs : s.length ≤ 10000000000) (hsy : Syms (normI s)) :
    PC Try.prog 92 [partsV l, spansV s] (spansV (togL l s)) := by
  have hln := hsy.nums
  have hls := hsy.len
  have hmem : ∀ k, k < (numsI (normI s)).length → 0 ≤ nth (numsI (normI s)) k ∧ nth (numsI (normI s)) k ≤ 1114111 := fun k hk => hsy.mem (nums_mem.1 (nth_mem hk))
  have hit := each_iter (normI s) (by omega) (normI_bounds s)
  have hI := part_Image (nth l 0) s hs
  have hE := span_Each s (by omega)
  refine pc_w' c_term_together ?_
  unfold B_term_together
  (repeat' (first | (simp (disch := omega) only [push_cast, ↓zz, seval]) | (with_reducible refine And.intro ?_ ?_) | (with_reducible refine condW_split ?_ ?_ <;> intro hc <;> (try simp only [push_cast] at hc)) | (with_reducible refine guardW_split ?_ ?_ <;> intro hc <;> (try simp only [push_cast] at hc)) | ((with_reducible first | refine eK hI ?_ | refine eQ hI ?_ | refine eG hI ?_)) | ((with_reducible first | refine eK hE ?_ | refine eQ hE ?_ | refine eG hE ?_)) | ((with_reducible first | refine cK hI ?_ | refine cQ hI ?_ | refine cG hI ?_); (simp (disch := omega) only [push_cast, ↓zz, seval]); (fail_if_success (with_reducible change False))) | ((with_reducible first | refine cK hE ?_ | refine cQ hE ?_ | refine cG hE ?_); (simp (disch := omega) only [push_cast, ↓zz, seval]); (fail_if_success (with_reducible change False))) | omega | (with_reducible intro _)))
  · rw [togL, if_pos (by omega)]
  rw [togL, if_neg (by omega)]
  generalize hlne : numsI (normI s) = m at *
  refine LoopK_R (T_rngR (σ := Nat × List Span) (fun k s => s.2 = (m.take k).foldl (togF l) [] ∧ s.2.length ≤ k) [(2, .ptr 0 1 0 0), (5, .ptr 1 1 0 0), (22, .fn 90 [.cptr (spansV (normI s))])] (fun s => [⟨1, 1, true, [partsV l]⟩, ⟨1, 1, true, [.ref 2 s.1 0 s.2.length]⟩, ⟨2, s.1, false, s.2.map spanV⟩])
    [.grp 0, .grp 1, .virt 2] 3 (1, []) hit ?_ (fun _ => rfl) rfl ?_ rfl rfl (flat_rows _) (len_rows _) (by simp) ⟨by simp, by simp⟩ ?_ ?_)
  · (repeat' (first | (simp (disch := omega) only [push_cast, ↓zz, seval]) | (with_reducible refine And.intro ?_ ?_) | (with_reducible refine condW_split ?_ ?_ <;> intro hc <;> (try simp only [push_cast] at hc)) | (with_reducible refine guardW_split ?_ ?_ <;> intro hc <;> (try simp only [push_cast] at hc)) | omega | (with_reducible intro _)))
  · (repeat' (first | (simp (disch := omega) only [push_cast, ↓zz, seval]) | (with_reducible refine And.intro ?_ ?_) | (with_reducible refine condW_split ?_ ?_ <;> intro hc <;> (try simp only [push_cast] at hc)) | (with_reducible refine guardW_split ?_ ?_ <;> intro hc <;> (try simp only [push_cast] at hc)) | omega | (with_reducible intro _)))
  · rintro k row ⟨v, out⟩ hrow ⟨h1, h2⟩
    simp only at h1 h2
    obtain ⟨hk, rfl⟩ := row_at hrow
    have hxb := hmem k hk
    have hstep : (m.take (k + 1)).foldl (togF l) [] = togF l out (nth m k) := by rw [take_at hk, List.foldl_append, ← h1]; rfl
    generalize nth m k = x at *
    refine W_T ?_
    (repeat' (first | (simp (disch := omega) only [push_cast, ↓zz, seval]) | (with_reducible refine And.intro ?_ ?_) | (with_reducible refine condW_split ?_ ?_ <;> intro hc <;> (try simp only [push_cast] at hc)) | (with_reducible refine guardW_split ?_ ?_ <;> intro hc <;> (try simp only [push_cast] at hc)) | omega | (with_reducible intro _)))
    refine W_T ?_
    (repeat' (first | (simp (disch := omega) only [push_cast, ↓zz, seval]) | (with_reducible refine And.intro ?_ ?_) | (with_reducible refine condW_split ?_ ?_ <;> intro hc <;> (try simp only [push_cast] at hc)) | (with_reducible refine guardW_split ?_ ?_ <;> intro hc <;> (try simp only [push_cast] at hc)) | omega | (with_reducible intro _)))
    refine LoopK_T (T_loopR (fun (j : Nat) => j ≤ l.length) (fun j => l.length - j)
      (fun j => [(2, .ptr 0 1 0 0), (5, .ptr 1 1 0 0), (6, .int .i64 x), (7, .int .i64 (totV (l.take j) x)), (24, partsV l), (25, .int .i64 l.length), (26, .int .i64 j)]) (fun _ => [⟨1, 1, true, [partsV l]⟩, ⟨1, 1, true, [.ref 2 v 0 out.length]⟩, ⟨2, v, false, out.map spanV⟩]) (fun _ _ => []) 0 (by simp) ?_ ?_)
    · (repeat' (first | (simp (disch := omega) only [push_cast, ↓zz, seval, totV_nil]) | (with_reducible refine And.intro ?_ ?_) | (with_reducible refine condW_split ?_ ?_ <;> intro hc <;> (try simp only [push_cast] at hc)) | (with_reducible refine guardW_split ?_ ?_ <;> intro hc <;> (try simp only [push_cast] at hc)) | omega | (with_reducible intro _)))
    intro j hj
    rcases Nat.lt_or_ge j l.length with hjl | hjl
    · have hp := hb _ (nth_mem hjl)
      have hV := part_Value (nth l j) x
      have e1 : val1 (nth l j) x = valP (nth l j) x := by
        have hvb : valB (nth l j) x = true := by simp [valB, hp]; omega
        simp [val1, hvb]
      rw [valV, e1] at hV
      have t1 := totV_bd (x := x) (by omega) (l := l.take j) fun q hq => hb q (List.mem_of_mem_take hq)
      have t2 := valP_small hp (x := x) (by omega)
      have hlt : (l.take j).length = j := by simp; omega
      rw [hlt] at t1
      have hw : IntKind.i64.wrap (totV (l.take j) x + valP (nth l j) x) = totV (l.take j) x + valP (nth l j) x := IntWalk.i64_in _ (by omega)
      have hn : totV (l.take (j + 1)) x = totV (l.take j) x + valP (nth l j) x := by rw [take_at hjl, totV_snoc]
      refine W_T ?_
      (repeat' (first | (simp (disch := omega) only [push_cast, ↓zz, seval, hw]) | (with_reducible refine And.intro ?_ ?_) | (with_reducible refine condW_split ?_ ?_ <;> intro hc <;> (try simp only [push_cast] at hc)) | (with_reducible refine guardW_split ?_ ?_ <;> intro hc <;> (try simp only [push_cast] at hc)) | ((with_reducible first | refine eK hV ?_ | refine eQ hV ?_ | refine eG hV ?_)) | ((with_reducible first | refine cK hV ?_ | refine cQ hV ?_ | refine cG hV ?_); (simp (disch := omega) only [push_cast, ↓zz, seval, hw]); (fail_if_success (with_reducible change False))) | omega | (with_reducible intro _)))
      all_goals exact ⟨j + 1, ⟨hn.symm, by push_cast⟩, by omega, by omega⟩
    · obtain rfl : j = l.length := by omega
      rw [List.take_length]
      have t1 := totV_bd (x := x) (by omega) (l := l) hb
      rw [togF] at hstep
      generalize totV l x = n at *
      have hwn : IntKind.i64.wrap (n - 1) = n - 1 := IntWalk.i64_in _ (by omega)
      rcases snoc_cases out with rfl | ⟨mm, z, hout⟩
      · refine W_T ?_
        (repeat' (first | (simp (disch := omega) only [push_cast, ↓zz, seval, hwn]) | (with_reducible refine And.intro ?_ ?_) | (with_reducible refine condW_split ?_ ?_ <;> intro hc <;> (try simp only [push_cast] at hc)) | (with_reducible refine guardW_split ?_ ?_ <;> intro hc <;> (try simp only [push_cast] at hc)) | omega | (with_reducible intro _)))
        all_goals
          refine ⟨(v + 1, [⟨n, n⟩]), ?_⟩
          rw [addS_nil] at hstep
          (repeat' (first | (simp (disch := omega) only [push_cast, ↓zz, seval, hstep]) | (with_reducible refine And.intro ?_ ?_) | (with_reducible refine condW_split ?_ ?_ <;> intro hc <;> (try simp only [push_cast] at hc)) | (with_reducible refine guardW_split ?_ ?_ <;> intro hc <;> (try simp only [push_cast] at hc)) | omega | (with_reducible intro _)))
      · have l1 : out.length = mm.length + 1 := by rw [hout]; simp
        have l2 : nth out mm.length = z := by rw [hout]; exact nth_snoc
        have l3 : IntKind.i64.wrap (mm.length : Int) = mm.length := IntWalk.i64_in _ (by omega)
        have l4 : (out.map spanV).set mm.length (.agg [.int .i64 z.lo, .int .i64 n]) = (mm ++ [(⟨z.lo, n⟩ : Span)]).map spanV := by rw [hout]; exact map_snoc_set (f := spanV) (z := ⟨z.lo, n⟩)
        have hadd : addS out ⟨n, n⟩ = if z.hi = n - 1 then mm ++ [⟨z.lo, n⟩] else out ++ [⟨n, n⟩] := by rw [hout, addS_snoc]
        rw [hadd] at hstep
        clear hadd hout
        refine W_T ?_
        (repeat' (first | (simp (disch := omega) only [push_cast, ↓zz, seval, l1, l2, l3, l4, hwn]) | (with_reducible refine And.intro ?_ ?_) | (with_reducible refine condW_split ?_ ?_ <;> intro hc <;> (try simp only [push_cast] at hc)) | (with_reducible refine guardW_split ?_ ?_ <;> intro hc <;> (try simp only [push_cast] at hc)) | omega | (with_reducible intro _)))
        · rw [if_pos (by assumption)] at hstep
          refine ⟨(v, mm ++ [⟨z.lo, n⟩]), ?_⟩
          (repeat' (first | (simp (disch := omega) only [push_cast, ↓zz, seval, hstep]) | (with_reducible refine And.intro ?_ ?_) | (with_reducible refine condW_split ?_ ?_ <;> intro hc <;> (try simp only [push_cast] at hc)) | (with_reducible refine guardW_split ?_ ?_ <;> intro hc <;> (try simp only [push_cast] at hc)) | omega | (with_reducible intro _)))
        · rw [if_neg (by assumption)] at hstep
          refine ⟨(v + 1, out ++ [⟨n, n⟩]), ?_⟩
          (repeat' (first | (simp (disch := omega) only [push_cast, ↓zz, seval, hstep, l1]) | (with_reducible refine And.intro ?_ ?_) | (with_reducible refine condW_split ?_ ?_ <;> intro hc <;> (try simp only [push_cast] at hc)) | (with_reducible refine guardW_split ?_ ?_ <;> intro hc <;> (try simp only [push_cast] at hc)) | omega | (with_reducible intro _)))
  · rintro ⟨v, out⟩ ⟨h1, h2⟩
    simp only [List.length_map] at h1 h2
    rw [List.take_length] at h1
    rw [← h1]
    have hN := span_Norm out (by omega)
    (repeat' (first | (simp (disch := omega) only [push_cast, ↓zz, seval, grps_lst]) | (with_reducible refine And.intro ?_ ?_) | (with_reducible refine condW_split ?_ ?_ <;> intro hc <;> (try simp only [push_cast] at hc)) | (with_reducible refine guardW_split ?_ ?_ <;> intro hc <;> (try simp only [push_cast] at hc)) | ((with_reducible first | refine eK hN ?_ | refine eQ hN ?_ | refine eG hN ?_)) | ((with_reducible first | refine cK hN ?_ | refine cQ hN ?_ | refine cG hN ?_); (simp (disch := omega) only [push_cast, ↓zz, seval, grps_lst]); (fail_if_success (with_reducible change False))) | omega | (with_reducible intro _)))
    all_goals trace_state
end Go.Proofs.Ytdjbcenfgceejaa
set_option linter.unusedSimpArgs false
set_option linter.unusedVariables false
namespace Go.Proofs.Ytdjbcenfgceejaa
open Abs
def placesF (pl : List Int) (p : Part) : List Int := if p.at_ ∈ pl then pl else pl ++ [p.at_]
def placesL (l : List Part) : List Int := l.foldl placesF []
def atL (l : List Part) (a : Int) : List Part := l.filter fun p => decide (p.at_ = a)
def valsF (l : List Part) (sets : List (List Span)) (out : List Span) (a : Int) : List Span := plusL out (togL (atL l a) (nth sets a.toNat))
def valsL (t : Term) (sets : List (List Span)) : List Span := (placesL t.parts).foldl (valsF t.parts sets) [⟨t.sum, t.sum⟩]
def inSym (l : List Span) : Bool := decide (0 < (l.length : Int)) && (decide (0 ≤ (firstI (normI l)).getD 0) && decide ((lastI (normI l)).getD 0 ≤ 1114111))
def Acc (l : List Span) : Prop := Bd l ∧ l.length ≤ 2147483649
theorem normI_acc (l : List Span) : Acc (normI l) := by
  refine ⟨fun s hs => ?_, normI_short l⟩
  have := normI_bounds l s hs
  omega
theorem plus_acc (a b : List Span) : Acc (plusL a b) := normI_acc _
theorem imgL_acc (p : Part) (s : List Span) : Acc (imgL p s) := by
  unfold imgL
  repeat' split
  all_goals first | exact normI_acc _ | exact ⟨fun s hs => (by cases hs), by simp⟩
theorem togL_acc (l : List Part) (s : List Span) : Acc (togL l s) := by
  unfold togL
  split
  · exact imgL_acc _ _
  · exact normI_acc _
theorem acc_one {x : Int} (h : smallB x = true) : Acc [⟨x, x⟩] := by
  refine ⟨fun s hs => ?_, by simp⟩
  have := small_bd h
  simp only [List.mem_singleton] at hs
  subst hs
  simp only
  omega
structure SetsOk (l : List Part) (sets : List (List Span)) : Prop where
  parts : ∀ p ∈ l, rightB p sets.length = true
  syms : ∀ s ∈ sets, Syms s
  many : sets.length ≤ 1000
theorem syms_norm {s : List Span} (h : Syms s) : normI s = s := norm_self h.1 fun t ht => by have := h.2 t ht; omega
theorem values_step {l : List Part} {sets : List (List Span)} {out : List Span} {a : Int} (hS : SetsOk l sets) (hA : Acc out) (ha : 0 ≤ a ∧ a < sets.length) (hl : l.length ≤ 4) :
    PC Try.prog 92 [partsV (atL l a), spansV (nth sets a.toNat)] (spansV (togL (atL l a) (nth sets a.toNat))) ∧ PC Try.prog 91 [spansV out, spansV (togL (atL l a) (nth sets a.toNat))] (spansV (valsF l sets out a)) ∧ Acc (valsF l sets out a) := by
  have hm : nth sets a.toNat ∈ sets := nth_mem (by omega)
  have hs := hS.syms _ hm
  refine ⟨term_together _ _ (Nat.le_trans (List.length_filter_le _ _) (by omega)) (fun p hp => ?_) (by have := hs.len; omega) (by rw [syms_norm hs]; exact hs), term_plus _ _ (by have := hA.2; omega) (by have := (togL_acc (atL l a) (nth sets a.toNat)).2; omega) hA.1 (togL_acc _ _).1, plus_acc _ _⟩
  have := hS.parts p ((List.mem_filter.1 hp).1)
  simp only [rightB, Bool.and_eq_true] at this
  exact this.2
theorem values_0_0 (bs dr tk up sm : Int) (sets : List (List Span)) (hs : smallB sm = true) (hS : SetsOk [] sets) :
    PC Try.prog 83 [termV ⟨bs, dr, tk, up, sm, []⟩, guardsV sets] (.tup [spansV (valsL ⟨bs, dr, tk, up, sm, []⟩ sets), .bool (inSym (valsL ⟨bs, dr, tk, up, sm, []⟩ sets))]) := by
  have hg := pure_guards sets
  have A0 := acc_one hs
  have hv : valsL ⟨bs, dr, tk, up, sm, []⟩ sets = [⟨sm, sm⟩] := by simp [valsL, placesL, placesF]
  rw [hv]
  have hF := span_First ([⟨sm, sm⟩]) (by have := A0.2; omega)
  have hL := span_Last ([⟨sm, sm⟩]) (by have := A0.2; omega)
  clear hS hv
  refine pc_w' c_term_values ?_
  unfold B_term_values
  (repeat' (first | (simp (disch := omega) only [push_cast, ↓zz, seval]) | (with_reducible refine And.intro ?_ ?_) | (with_reducible refine condW_split ?_ ?_ <;> intro hc <;> (try simp only [push_cast] at hc)) | (with_reducible refine guardW_split ?_ ?_ <;> intro hc <;> (try simp only [push_cast] at hc)) | omega | (with_reducible intro _)))
  refine LoopK_rounds 6 ?_
  (repeat' (first | (simp (disch := omega) only [push_cast, ↓zz, seval, xx, List.mem_cons, List.not_mem_nil, or_false, false_or, not_or, not_false_eq_true, true_or, or_true, findM, setM]) | (with_reducible refine And.intro ?_ ?_) | (with_reducible refine condW_split ?_ ?_ <;> intro hc <;> (try simp only [push_cast] at hc)) | (with_reducible refine guardW_split ?_ ?_ <;> intro hc <;> (try simp only [push_cast] at hc)) | ((with_reducible refine Rounds_next ?_)) | ((with_reducible refine LoopK_X [1] ?_)) | omega | (with_reducible intro _)))
  refine LoopK_head 6 (fun env => [srcOf 1 (env 6)]) [(1, guardsV sets), (6, .map 0 1), (10, spansV [⟨sm, sm⟩]), (53, .lst 1 []), (54, .int .i64 0), (55, .int .i64 0)] [⟨0, 1, true, []⟩] ?_ ?_
  · (repeat' (first | (simp (disch := omega) only [push_cast, ↓zz, seval]) | (with_reducible refine And.intro ?_ ?_) | (with_reducible refine condW_split ?_ ?_ <;> intro hc <;> (try simp only [push_cast] at hc)) | (with_reducible refine guardW_split ?_ ?_ <;> intro hc <;> (try simp only [push_cast] at hc)) | omega | (with_reducible intro _)))
    all_goals (simp only [partV]; done)
  (repeat' (first | (simp (disch := omega) only [push_cast, ↓zz, seval, findM, inSym, hg]) | (with_reducible refine And.intro ?_ ?_) | (with_reducible refine condW_split ?_ ?_ <;> intro hc <;> (try simp only [push_cast] at hc)) | (with_reducible refine guardW_split ?_ ?_ <;> intro hc <;> (try simp only [push_cast] at hc)) | ((with_reducible refine Rounds_next ?_)) | ((with_reducible first | refine eK hF ?_ | refine eQ hF ?_ | refine eG hF ?_)) | ((with_reducible first | refine eK hL ?_ | refine eQ hL ?_ | refine eG hL ?_)) | ((with_reducible first | refine cK hF ?_ | refine cQ hF ?_ | refine cG hF ?_); (simp (disch := omega) only [push_cast, ↓zz, seval, findM, inSym, hg]); (fail_if_success (with_reducible change False))) | ((with_reducible first | refine cK hL ?_ | refine cQ hL ?_ | refine cG hL ?_); (simp (disch := omega) only [push_cast, ↓zz, seval, findM, inSym, hg]); (fail_if_success (with_reducible change False))) | omega | (with_reducible intro _)))
  all_goals ((try simp only [*, decide_true, decide_false, Bool.true_and, Bool.false_and]); (repeat' (first | (simp (disch := omega) only [push_cast, ↓zz, seval, an_tup]) | omega | (with_reducible refine And.intro ?_ ?_))))
theorem values_0 (bs dr tk up sm : Int) (sets : List (List Span)) (hs : smallB sm = true) (hS : SetsOk [] sets) :
    PC Try.prog 83 [termV ⟨bs, dr, tk, up, sm, []⟩, guardsV sets] (.tup [spansV (valsL ⟨bs, dr, tk, up, sm, []⟩ sets), .bool (inSym (valsL ⟨bs, dr, tk, up, sm, []⟩ sets))]) := by
  exact values_0_0 bs dr tk up sm  sets hs hS 
theorem values_1_0 (bs dr tk up sm : Int) (p0 : Part) (sets : List (List Span)) (hs : smallB sm = true) (hS : SetsOk [p0] sets) :
    PC Try.prog 83 [termV ⟨bs, dr, tk, up, sm, [p0]⟩, guardsV sets] (.tup [spansV (valsL ⟨bs, dr, tk, up, sm, [p0]⟩ sets), .bool (inSym (valsL ⟨bs, dr, tk, up, sm, [p0]⟩ sets))]) := by
  have hg := pure_guards sets
  have b0 := right_at (hS.parts p0 (by simp))
  have A0 := acc_one hs
  obtain ⟨T1, P1, A1⟩ := values_step (a := p0.at_) hS A0 (by omega) (by simp)
  have l1 : atL [p0] p0.at_ = [p0] := by simp [atL]
  rw [l1] at T1 P1
  have hv : valsL ⟨bs, dr, tk, up, sm, [p0]⟩ sets = valsF [p0] sets ([⟨sm, sm⟩]) p0.at_ := by simp [valsL, placesL, placesF]
  rw [hv]
  generalize ho1 : valsF [p0] sets ([⟨sm, sm⟩]) p0.at_ = o1 at *
  generalize ht1 : togL [p0] (nth sets p0.at_.toNat) = t1 at *
  have hF := span_First o1 (by have := A1.2; omega)
  have hL := span_Last o1 (by have := A1.2; omega)
  clear hS hv ho1 ht1 l1
  refine pc_w' c_term_values ?_
  unfold B_term_values
  (repeat' (first | (simp (disch := omega) only [push_cast, ↓zz, seval]) | (with_reducible refine And.intro ?_ ?_) | (with_reducible refine condW_split ?_ ?_ <;> intro hc <;> (try simp only [push_cast] at hc)) | (with_reducible refine guardW_split ?_ ?_ <;> intro hc <;> (try simp only [push_cast] at hc)) | omega | (with_reducible intro _)))
  refine LoopK_rounds 6 ?_
  (repeat' (first | (simp (disch := omega) only [push_cast, ↓zz, seval, xx, List.mem_cons, List.not_mem_nil, or_false, false_or, not_or, not_false_eq_true, true_or, or_true, findM, setM]) | (with_reducible refine And.intro ?_ ?_) | (with_reducible refine condW_split ?_ ?_ <;> intro hc <;> (try simp only [push_cast] at hc)) | (with_reducible refine guardW_split ?_ ?_ <;> intro hc <;> (try simp only [push_cast] at hc)) | ((with_reducible refine Rounds_next ?_)) | ((with_reducible refine LoopK_X [1] ?_)) | omega | (with_reducible intro _)))
  refine LoopK_head 6 (fun env => [srcOf 1 (env 6)]) [(1, guardsV sets), (6, .map 0 1), (10, spansV [⟨sm, sm⟩]), (53, .lst 1 [.int .i64 p0.at_]), (54, .int .i64 1), (55, .int .i64 0)] [⟨0, 1, true, [.int .i64 p0.at_, partsV [p0]]⟩] ?_ ?_
  · (repeat' (first | (simp (disch := omega) only [push_cast, ↓zz, seval]) | (with_reducible refine And.intro ?_ ?_) | (with_reducible refine condW_split ?_ ?_ <;> intro hc <;> (try simp only [push_cast] at hc)) | (with_reducible refine guardW_split ?_ ?_ <;> intro hc <;> (try simp only [push_cast] at hc)) | omega | (with_reducible intro _)))
    all_goals (simp only [partV]; done)
  (repeat' (first | (simp (disch := omega) only [push_cast, ↓zz, seval, findM, inSym, hg]) | (with_reducible refine And.intro ?_ ?_) | (with_reducible refine condW_split ?_ ?_ <;> intro hc <;> (try simp only [push_cast] at hc)) | (with_reducible refine guardW_split ?_ ?_ <;> intro hc <;> (try simp only [push_cast] at hc)) | ((with_reducible refine Rounds_next ?_)) | ((with_reducible first | refine eQ T1 ?_ | refine eQ P1 ?_)) | ((with_reducible first | refine eK hF ?_ | refine eK hL ?_)) | omega | (with_reducible intro _)))
  all_goals ((try simp only [*, decide_true, decide_false, Bool.true_and, Bool.false_and]); (repeat' (first | (simp (disch := omega) only [push_cast, ↓zz, seval, an_tup]) | omega | (with_reducible refine And.intro ?_ ?_))))
theorem values_1 (bs dr tk up sm : Int) (p0 : Part) (sets : List (List Span)) (hs : smallB sm = true) (hS : SetsOk [p0] sets) :
    PC Try.prog 83 [termV ⟨bs, dr, tk, up, sm, [p0]⟩, guardsV sets] (.tup [spansV (valsL ⟨bs, dr, tk, up, sm, [p0]⟩ sets), .bool (inSym (valsL ⟨bs, dr, tk, up, sm, [p0]⟩ sets))]) := by
  exact values_1_0 bs dr tk up sm p0 sets hs hS 
theorem values_2_0 (bs dr tk up sm : Int) (p0 p1 : Part) (sets : List (List Span)) (hs : smallB sm = true) (hS : SetsOk [p0, p1] sets) (e1 : p1.at_ = p0.at_) :
    PC Try.prog 83 [termV ⟨bs, dr, tk, up, sm, [p0, p1]⟩, guardsV sets] (.tup [spansV (valsL ⟨bs, dr, tk, up, sm, [p0, p1]⟩ sets), .bool (inSym (valsL ⟨bs, dr, tk, up, sm, [p0, p1]⟩ sets))]) := by
  have hg := pure_guards sets
  have b0 := right_at (hS.parts p0 (by simp))
  have b1 := right_at (hS.parts p1 (by simp))
  have A0 := acc_one hs
  obtain ⟨T1, P1, A1⟩ := values_step (a := p0.at_) hS A0 (by omega) (by simp)
  have l1 : atL [p0, p1] p0.at_ = [p0, p1] := by simp [atL, e1]
  rw [l1] at T1 P1
  have hv : valsL ⟨bs, dr, tk, up, sm, [p0, p1]⟩ sets = valsF [p0, p1] sets ([⟨sm, sm⟩]) p0.at_ := by simp [valsL, placesL, placesF, e1]
  rw [hv]
  generalize ho1 : valsF [p0, p1] sets ([⟨sm, sm⟩]) p0.at_ = o1 at *
  generalize ht1 : togL [p0, p1] (nth sets p0.at_.toNat) = t1 at *
  have hF := span_First o1 (by have := A1.2; omega)
  have hL := span_Last o1 (by have := A1.2; omega)
  clear hS hv ho1 ht1 l1
  refine pc_w' c_term_values ?_
  unfold B_term_values
  (repeat' (first | (simp (disch := omega) only [push_cast, ↓zz, seval]) | (with_reducible refine And.intro ?_ ?_) | (with_reducible refine condW_split ?_ ?_ <;> intro hc <;> (try simp only [push_cast] at hc)) | (with_reducible refine guardW_split ?_ ?_ <;> intro hc <;> (try simp only [push_cast] at hc)) | omega | (with_reducible intro _)))
  refine LoopK_rounds 6 ?_
  (repeat' (first | (simp (disch := omega) only [push_cast, ↓zz, seval, xx, List.mem_cons, List.not_mem_nil, or_false, false_or, not_or, not_false_eq_true, true_or, or_true, findM, setM, e1]) | (with_reducible refine And.intro ?_ ?_) | (with_reducible refine condW_split ?_ ?_ <;> intro hc <;> (try simp only [push_cast] at hc)) | (with_reducible refine guardW_split ?_ ?_ <;> intro hc <;> (try simp only [push_cast] at hc)) | ((with_reducible refine Rounds_next ?_)) | ((with_reducible refine LoopK_X [1, 5] ?_)) | omega | (with_reducible intro _)))
  refine LoopK_head 6 (fun env => [srcOf 1 (env 6)]) [(1, guardsV sets), (6, .map 0 1), (10, spansV [⟨sm, sm⟩]), (53, .lst 1 [.int .i64 p0.at_]), (54, .int .i64 1), (55, .int .i64 0)] [⟨0, 1, true, [.int .i64 p0.at_, partsV [p0, p1]]⟩] ?_ ?_
  · (repeat' (first | (simp (disch := omega) only [push_cast, ↓zz, seval, e1]) | (with_reducible refine And.intro ?_ ?_) | (with_reducible refine condW_split ?_ ?_ <;> intro hc <;> (try simp only [push_cast] at hc)) | (with_reducible refine guardW_split ?_ ?_ <;> intro hc <;> (try simp only [push_cast] at hc)) | omega | (with_reducible intro _)))
    all_goals (simp only [partV, e1]; done)
  (repeat' (first | (simp (disch := omega) only [push_cast, ↓zz, seval, findM, inSym, hg, e1]) | (with_reducible refine And.intro ?_ ?_) | (with_reducible refine condW_split ?_ ?_ <;> intro hc <;> (try simp only [push_cast] at hc)) | (with_reducible refine guardW_split ?_ ?_ <;> intro hc <;> (try simp only [push_cast] at hc)) | ((with_reducible refine Rounds_next ?_)) | ((with_reducible first | refine eQ T1 ?_ | refine eQ P1 ?_)) | ((with_reducible first | refine eK hF ?_ | refine eK hL ?_)) | omega | (with_reducible intro _)))
  all_goals ((try simp only [*, decide_true, decide_false, Bool.true_and, Bool.false_and]); (repeat' (first | (simp (disch := omega) only [push_cast, ↓zz, seval, an_tup]) | omega | (with_reducible refine And.intro ?_ ?_))))
theorem values_2_1 (bs dr tk up sm : Int) (p0 p1 : Part) (sets : List (List Span)) (hs : smallB sm = true) (hS : SetsOk [p0, p1] sets) (n01 : ¬ p0.at_ = p1.at_) :
    PC Try.prog 83 [termV ⟨bs, dr, tk, up, sm, [p0, p1]⟩, guardsV sets] (.tup [spansV (valsL ⟨bs, dr, tk, up, sm, [p0, p1]⟩ sets), .bool (inSym (valsL ⟨bs, dr, tk, up, sm, [p0, p1]⟩ sets))]) := by
  have hg := pure_guards sets
  have b0 := right_at (hS.parts p0 (by simp))
  have b1 := right_at (hS.parts p1 (by simp))
  have A0 := acc_one hs
  obtain ⟨T1, P1, A1⟩ := values_step (a := p0.at_) hS A0 (by omega) (by simp)
  have l1 : atL [p0, p1] p0.at_ = [p0] := by simp [atL, n01, Ne.symm (show p0.at_ ≠ p1.at_ from n01)]
  rw [l1] at T1 P1
  obtain ⟨T2, P2, A2⟩ := values_step (a := p1.at_) hS A1 (by omega) (by simp)
  have l2 : atL [p0, p1] p1.at_ = [p1] := by simp [atL, n01, Ne.symm (show p0.at_ ≠ p1.at_ from n01)]
  rw [l2] at T2 P2
  have hv : valsL ⟨bs, dr, tk, up, sm, [p0, p1]⟩ sets = valsF [p0, p1] sets (valsF [p0, p1] sets ([⟨sm, sm⟩]) p0.at_) p1.at_ := by simp [valsL, placesL, placesF, n01, Ne.symm (show p0.at_ ≠ p1.at_ from n01)]
  rw [hv]
  generalize ho1 : valsF [p0, p1] sets ([⟨sm, sm⟩]) p0.at_ = o1 at *
  generalize ht1 : togL [p0] (nth sets p0.at_.toNat) = t1 at *
  generalize ho2 : valsF [p0, p1] sets (o1) p1.at_ = o2 at *
  generalize ht2 : togL [p1] (nth sets p1.at_.toNat) = t2 at *
  have hF := span_First o2 (by have := A2.2; omega)
  have hL := span_Last o2 (by have := A2.2; omega)
  clear hS hv ho1 ht1 l1 ho2 ht2 l2
  refine pc_w' c_term_values ?_
  unfold B_term_values
  (repeat' (first | (simp (disch := omega) only [push_cast, ↓zz, seval]) | (with_reducible refine And.intro ?_ ?_) | (with_reducible refine condW_split ?_ ?_ <;> intro hc <;> (try simp only [push_cast] at hc)) | (with_reducible refine guardW_split ?_ ?_ <;> intro hc <;> (try simp only [push_cast] at hc)) | omega | (with_reducible intro _)))
  refine LoopK_rounds 6 ?_
  (repeat' (first | (simp (disch := omega) only [push_cast, ↓zz, seval, xx, List.mem_cons, List.not_mem_nil, or_false, false_or, not_or, not_false_eq_true, true_or, or_true, findM, setM, n01]) | (with_reducible refine And.intro ?_ ?_) | (with_reducible refine condW_split ?_ ?_ <;> intro hc <;> (try simp only [push_cast] at hc)) | (with_reducible refine guardW_split ?_ ?_ <;> intro hc <;> (try simp only [push_cast] at hc)) | ((with_reducible refine Rounds_next ?_)) | ((with_reducible refine LoopK_X [1] ?_)) | omega | (with_reducible intro _)))
  refine LoopK_head 6 (fun env => [srcOf 1 (env 6)]) [(1, guardsV sets), (6, .map 0 1), (10, spansV [⟨sm, sm⟩]), (53, .lst 1 [.int .i64 p0.at_, .int .i64 p1.at_]), (54, .int .i64 2), (55, .int .i64 0)] [⟨0, 1, true, [.int .i64 p0.at_, partsV [p0], .int .i64 p1.at_, partsV [p1]]⟩] ?_ ?_
  · (repeat' (first | (simp (disch := omega) only [push_cast, ↓zz, seval, n01]) | (with_reducible refine And.intro ?_ ?_) | (with_reducible refine condW_split ?_ ?_ <;> intro hc <;> (try simp only [push_cast] at hc)) | (with_reducible refine guardW_split ?_ ?_ <;> intro hc <;> (try simp only [push_cast] at hc)) | omega | (with_reducible intro _)))
    all_goals (simp only [partV, n01]; done)
  (repeat' (first | (simp (disch := omega) only [push_cast, ↓zz, seval, findM, inSym, hg, n01]) | (with_reducible refine And.intro ?_ ?_) | (with_reducible refine condW_split ?_ ?_ <;> intro hc <;> (try simp only [push_cast] at hc)) | (with_reducible refine guardW_split ?_ ?_ <;> intro hc <;> (try simp only [push_cast] at hc)) | ((with_reducible refine Rounds_next ?_)) | ((with_reducible first | refine eQ T1 ?_ | refine eQ P1 ?_)) | ((with_reducible first | refine eQ T2 ?_ | refine eQ P2 ?_)) | ((with_reducible first | refine eK hF ?_ | refine eK hL ?_)) | omega | (with_reducible intro _)))
  all_goals ((try simp only [*, decide_true, decide_false, Bool.true_and, Bool.false_and]); (repeat' (first | (simp (disch := omega) only [push_cast, ↓zz, seval, an_tup]) | omega | (with_reducible refine And.intro ?_ ?_))))
theorem values_2 (bs dr tk up sm : Int) (p0 p1 : Part) (sets : List (List Span)) (hs : smallB sm = true) (hS : SetsOk [p0, p1] sets) :
    PC Try.prog 83 [termV ⟨bs, dr, tk, up, sm, [p0, p1]⟩, guardsV sets] (.tup [spansV (valsL ⟨bs, dr, tk, up, sm, [p0, p1]⟩ sets), .bool (inSym (valsL ⟨bs, dr, tk, up, sm, [p0, p1]⟩ sets))]) := by
  rcases Classical.em (p1.at_ = p0.at_) with e1 | x01
  · skip
    exact values_2_0 bs dr tk up sm p0 p1 sets hs hS e1
  have n01 : ¬ p0.at_ = p1.at_ := fun h => x01 h.symm
  exact values_2_1 bs dr tk up sm p0 p1 sets hs hS n01
theorem values_3_0 (bs dr tk up sm : Int) (p0 p1 p2 : Part) (sets : List (List Span)) (hs : smallB sm = true) (hS : SetsOk [p0, p1, p2] sets) (e1 : p1.at_ = p0.at_) (e2 : p2.at_ = p0.at_) :
    PC Try.prog 83 [termV ⟨bs, dr, tk, up, sm, [p0, p1, p2]⟩, guardsV sets] (.tup [spansV (valsL ⟨bs, dr, tk, up, sm, [p0, p1, p2]⟩ sets), .bool (inSym (valsL ⟨bs, dr, tk, up, sm, [p0, p1, p2]⟩ sets))]) := by
  have hg := pure_guards sets
  have b0 := right_at (hS.parts p0 (by simp))
  have b1 := right_at (hS.parts p1 (by simp))
  have b2 := right_at (hS.parts p2 (by simp))
  have A0 := acc_one hs
  obtain ⟨T1, P1, A1⟩ := values_step (a := p0.at_) hS A0 (by omega) (by simp)
  have l1 : atL [p0, p1, p2] p0.at_ = [p0, p1, p2] := by simp [atL, e1, e2]
  rw [l1] at T1 P1
  have hv : valsL ⟨bs, dr, tk, up, sm, [p0, p1, p2]⟩ sets = valsF [p0, p1, p2] sets ([⟨sm, sm⟩]) p0.at_ := by simp [valsL, placesL, placesF, e1, e2]
  rw [hv]
  generalize ho1 : valsF [p0, p1, p2] sets ([⟨sm, sm⟩]) p0.at_ = o1 at *
  generalize ht1 : togL [p0, p1, p2] (nth sets p0.at_.toNat) = t1 at *
  have hF := span_First o1 (by have := A1.2; omega)
  have hL := span_Last o1 (by have := A1.2; omega)
  clear hS hv ho1 ht1 l1
  refine pc_w' c_term_values ?_
  unfold B_term_values
  (repeat' (first | (simp (disch := omega) only [push_cast, ↓zz, seval]) | (with_reducible refine And.intro ?_ ?_) | (with_reducible refine condW_split ?_ ?_ <;> intro hc <;> (try simp only [push_cast] at hc)) | (with_reducible refine guardW_split ?_ ?_ <;> intro hc <;> (try simp only [push_cast] at hc)) | omega | (with_reducible intro _)))
  refine LoopK_rounds 6 ?_
  (repeat' (first | (simp (disch := omega) only [push_cast, ↓zz, seval, xx, List.mem_cons, List.not_mem_nil, or_false, false_or, not_or, not_false_eq_true, true_or, or_true, findM, setM, e1, e2]) | (with_reducible refine And.intro ?_ ?_) | (with_reducible refine condW_split ?_ ?_ <;> intro hc <;> (try simp only [push_cast] at hc)) | (with_reducible refine guardW_split ?_ ?_ <;> intro hc <;> (try simp only [push_cast] at hc)) | ((with_reducible refine Rounds_next ?_)) | ((with_reducible refine LoopK_X [1, 5] ?_)) | omega | (with_reducible intro _)))
  refine LoopK_head 6 (fun env => [srcOf 1 (env 6)]) [(1, guardsV sets), (6, .map 0 1), (10, spansV [⟨sm, sm⟩]), (53, .lst 1 [.int .i64 p0.at_]), (54, .int .i64 1), (55, .int .i64 0)] [⟨0, 1, true, [.int .i64 p0.at_, partsV [p0, p1, p2]]⟩] ?_ ?_
  · (repeat' (first | (simp (disch := omega) only [push_cast, ↓zz, seval, e1, e2]) | (with_reducible refine And.intro ?_ ?_) | (with_reducible refine condW_split ?_ ?_ <;> intro hc <;> (try simp only [push_cast] at hc)) | (with_reducible refine guardW_split ?_ ?_ <;> intro hc <;> (try simp only [push_cast] at hc)) | omega | (with_reducible intro _)))
    all_goals (simp only [partV, e1, e2]; done)
  (repeat' (first | (simp (disch := omega) only [push_cast, ↓zz, seval, findM, inSym, hg, e1, e2]) | (with_reducible refine And.intro ?_ ?_) | (with_reducible refine condW_split ?_ ?_ <;> intro hc <;> (try simp only [push_cast] at hc)) | (with_reducible refine guardW_split ?_ ?_ <;> intro hc <;> (try simp only [push_cast] at hc)) | ((with_reducible refine Rounds_next ?_)) | ((with_reducible first | refine eQ T1 ?_ | refine eQ P1 ?_)) | ((with_reducible first | refine eK hF ?_ | refine eK hL ?_)) | omega | (with_reducible intro _)))
  all_goals ((try simp only [*, decide_true, decide_false, Bool.true_and, Bool.false_and]); (repeat' (first | (simp (disch := omega) only [push_cast, ↓zz, seval, an_tup]) | omega | (with_reducible refine And.intro ?_ ?_))))
theorem values_3_1 (bs dr tk up sm : Int) (p0 p1 p2 : Part) (sets : List (List Span)) (hs : smallB sm = true) (hS : SetsOk [p0, p1, p2] sets) (e1 : p1.at_ = p0.at_) (n02 : ¬ p0.at_ = p2.at_) :
    PC Try.prog 83 [termV ⟨bs, dr, tk, up, sm, [p0, p1, p2]⟩, guardsV sets] (.tup [spansV (valsL ⟨bs, dr, tk, up, sm, [p0, p1, p2]⟩ sets), .bool (inSym (valsL ⟨bs, dr, tk, up, sm, [p0, p1, p2]⟩ sets))]) := by
  have hg := pure_guards sets
  have b0 := right_at (hS.parts p0 (by simp))
  have b1 := right_at (hS.parts p1 (by simp))
  have b2 := right_at (hS.parts p2 (by simp))
  have A0 := acc_one hs
  obtain ⟨T1, P1, A1⟩ := values_step (a := p0.at_) hS A0 (by omega) (by simp)
  have l1 : atL [p0, p1, p2] p0.at_ = [p0, p1] := by simp [atL, e1, n02, Ne.symm (show p0.at_ ≠ p2.at_ from n02)]
  rw [l1] at T1 P1
  obtain ⟨T2, P2, A2⟩ := values_step (a := p2.at_) hS A1 (by omega) (by simp)
  have l2 : atL [p0, p1, p2] p2.at_ = [p2] := by simp [atL, e1, n02, Ne.symm (show p0.at_ ≠ p2.at_ from n02)]
  rw [l2] at T2 P2
  have hv : valsL ⟨bs, dr, tk, up, sm, [p0, p1, p2]⟩ sets = valsF [p0, p1, p2] sets (valsF [p0, p1, p2] sets ([⟨sm, sm⟩]) p0.at_) p2.at_ := by simp [valsL, placesL, placesF, e1, n02, Ne.symm (show p0.at_ ≠ p2.at_ from n02)]
  rw [hv]
  generalize ho1 : valsF [p0, p1, p2] sets ([⟨sm, sm⟩]) p0.at_ = o1 at *
  generalize ht1 : togL [p0, p1] (nth sets p0.at_.toNat) = t1 at *
  generalize ho2 : valsF [p0, p1, p2] sets (o1) p2.at_ = o2 at *
  generalize ht2 : togL [p2] (nth sets p2.at_.toNat) = t2 at *
  have hF := span_First o2 (by have := A2.2; omega)
  have hL := span_Last o2 (by have := A2.2; omega)
  clear hS hv ho1 ht1 l1 ho2 ht2 l2
  refine pc_w' c_term_values ?_
  unfold B_term_values
  (repeat' (first | (simp (disch := omega) only [push_cast, ↓zz, seval]) | (with_reducible refine And.intro ?_ ?_) | (with_reducible refine condW_split ?_ ?_ <;> intro hc <;> (try simp only [push_cast] at hc)) | (with_reducible refine guardW_split ?_ ?_ <;> intro hc <;> (try simp only [push_cast] at hc)) | omega | (with_reducible intro _)))
  refine LoopK_rounds 6 ?_
  (repeat' (first | (simp (disch := omega) only [push_cast, ↓zz, seval, xx, List.mem_cons, List.not_mem_nil, or_false, false_or, not_or, not_false_eq_true, true_or, or_true, findM, setM, e1, n02]) | (with_reducible refine And.intro ?_ ?_) | (with_reducible refine condW_split ?_ ?_ <;> intro hc <;> (try simp only [push_cast] at hc)) | (with_reducible refine guardW_split ?_ ?_ <;> intro hc <;> (try simp only [push_cast] at hc)) | ((with_reducible refine Rounds_next ?_)) | ((with_reducible refine LoopK_X [1, 5] ?_)) | omega | (with_reducible intro _)))
  refine LoopK_head 6 (fun env => [srcOf 1 (env 6)]) [(1, guardsV sets), (6, .map 0 1), (10, spansV [⟨sm, sm⟩]), (53, .lst 1 [.int .i64 p0.at_, .int .i64 p2.at_]), (54, .int .i64 2), (55, .int .i64 0)] [⟨0, 1, true, [.int .i64 p0.at_, partsV [p0, p1], .int .i64 p2.at_, partsV [p2]]⟩] ?_ ?_
  · (repeat' (first | (simp (disch := omega) only [push_cast, ↓zz, seval, e1, n02]) | (with_reducible refine And.intro ?_ ?_) | (with_reducible refine condW_split ?_ ?_ <;> intro hc <;> (try simp only [push_cast] at hc)) | (with_reducible refine guardW_split ?_ ?_ <;> intro hc <;> (try simp only [push_cast] at hc)) | omega | (with_reducible intro _)))
    all_goals (simp only [partV, e1, n02]; done)
  (repeat' (first | (simp (disch := omega) only [push_cast, ↓zz, seval, findM, inSym, hg, e1, n02]) | (with_reducible refine And.intro ?_ ?_) | (with_reducible refine condW_split ?_ ?_ <;> intro hc <;> (try simp only [push_cast] at hc)) | (with_reducible refine guardW_split ?_ ?_ <;> intro hc <;> (try simp only [push_cast] at hc)) | ((with_reducible refine Rounds_next ?_)) | ((with_reducible first | refine eQ T1 ?_ | refine eQ P1 ?_)) | ((with_reducible first | refine eQ T2 ?_ | refine eQ P2 ?_)) | ((with_reducible first | refine eK hF ?_ | refine eK hL ?_)) | omega | (with_reducible intro _)))
  all_goals ((try simp only [*, decide_true, decide_false, Bool.true_and, Bool.false_and]); (repeat' (first | (simp (disch := omega) only [push_cast, ↓zz, seval, an_tup]) | omega | (with_reducible refine And.intro ?_ ?_))))
theorem values_3_2 (bs dr tk up sm : Int) (p0 p1 p2 : Part) (sets : List (List Span)) (hs : smallB sm = true) (hS : SetsOk [p0, p1, p2] sets) (e2 : p2.at_ = p0.at_) (n01 : ¬ p0.at_ = p1.at_) :
    PC Try.prog 83 [termV ⟨bs, dr, tk, up, sm, [p0, p1, p2]⟩, guardsV sets] (.tup [spansV (valsL ⟨bs, dr, tk, up, sm, [p0, p1, p2]⟩ sets), .bool (inSym (valsL ⟨bs, dr, tk, up, sm, [p0, p1, p2]⟩ sets))]) := by
  have hg := pure_guards sets
  have b0 := right_at (hS.parts p0 (by simp))
  have b1 := right_at (hS.parts p1 (by simp))
  have b2 := right_at (hS.parts p2 (by simp))
  have A0 := acc_one hs
  obtain ⟨T1, P1, A1⟩ := values_step (a := p0.at_) hS A0 (by omega) (by simp)
  have l1 : atL [p0, p1, p2] p0.at_ = [p0, p2] := by simp [atL, e2, n01, Ne.symm (show p0.at_ ≠ p1.at_ from n01)]
  rw [l1] at T1 P1
  obtain ⟨T2, P2, A2⟩ := values_step (a := p1.at_) hS A1 (by omega) (by simp)
  have l2 : atL [p0, p1, p2] p1.at_ = [p1] := by simp [atL, e2, n01, Ne.symm (show p0.at_ ≠ p1.at_ from n01)]
  rw [l2] at T2 P2
  have hv : valsL ⟨bs, dr, tk, up, sm, [p0, p1, p2]⟩ sets = valsF [p0, p1, p2] sets (valsF [p0, p1, p2] sets ([⟨sm, sm⟩]) p0.at_) p1.at_ := by simp [valsL, placesL, placesF, e2, n01, Ne.symm (show p0.at_ ≠ p1.at_ from n01)]
  rw [hv]
  generalize ho1 : valsF [p0, p1, p2] sets ([⟨sm, sm⟩]) p0.at_ = o1 at *
  generalize ht1 : togL [p0, p2] (nth sets p0.at_.toNat) = t1 at *
  generalize ho2 : valsF [p0, p1, p2] sets (o1) p1.at_ = o2 at *
  generalize ht2 : togL [p1] (nth sets p1.at_.toNat) = t2 at *
  have hF := span_First o2 (by have := A2.2; omega)
  have hL := span_Last o2 (by have := A2.2; omega)
  clear hS hv ho1 ht1 l1 ho2 ht2 l2
  refine pc_w' c_term_values ?_
  unfold B_term_values
  (repeat' (first | (simp (disch := omega) only [push_cast, ↓zz, seval]) | (with_reducible refine And.intro ?_ ?_) | (with_reducible refine condW_split ?_ ?_ <;> intro hc <;> (try simp only [push_cast] at hc)) | (with_reducible refine guardW_split ?_ ?_ <;> intro hc <;> (try simp only [push_cast] at hc)) | omega | (with_reducible intro _)))
  refine LoopK_rounds 6 ?_
  (repeat' (first | (simp (disch := omega) only [push_cast, ↓zz, seval, xx, List.mem_cons, List.not_mem_nil, or_false, false_or, not_or, not_false_eq_true, true_or, or_true, findM, setM, e2, n01]) | (with_reducible refine And.intro ?_ ?_) | (with_reducible refine condW_split ?_ ?_ <;> intro hc <;> (try simp only [push_cast] at hc)) | (with_reducible refine guardW_split ?_ ?_ <;> intro hc <;> (try simp only [push_cast] at hc)) | ((with_reducible refine Rounds_next ?_)) | ((with_reducible refine LoopK_X [1, 5] ?_)) | omega | (with_reducible intro _)))
  refine LoopK_head 6 (fun env => [srcOf 1 (env 6)]) [(1, guardsV sets), (6, .map 0 1), (10, spansV [⟨sm, sm⟩]), (53, .lst 1 [.int .i64 p0.at_, .int .i64 p1.at_]), (54, .int .i64 2), (55, .int .i64 0)] [⟨0, 1, true, [.int .i64 p0.at_, partsV [p0, p2], .int .i64 p1.at_, partsV [p1]]⟩] ?_ ?_
  · (repeat' (first | (simp (disch := omega) only [push_cast, ↓zz, seval, e2, n01]) | (with_reducible refine And.intro ?_ ?_) | (with_reducible refine condW_split ?_ ?_ <;> intro hc <;> (try simp only [push_cast] at hc)) | (with_reducible refine guardW_split ?_ ?_ <;> intro hc <;> (try simp only [push_cast] at hc)) | omega | (with_reducible intro _)))
    all_goals (simp only [partV, e2, n01]; done)
  (repeat' (first | (simp (disch := omega) only [push_cast, ↓zz, seval, findM, inSym, hg, e2, n01]) | (with_reducible refine And.intro ?_ ?_) | (with_reducible refine condW_split ?_ ?_ <;> intro hc <;> (try simp only [push_cast] at hc)) | (with_reducible refine guardW_split ?_ ?_ <;> intro hc <;> (try simp only [push_cast] at hc)) | ((with_reducible refine Rounds_next ?_)) | ((with_reducible first | refine eQ T1 ?_ | refine eQ P1 ?_)) | ((with_reducible first | refine eQ T2 ?_ | refine eQ P2 ?_)) | ((with_reducible first | refine eK hF ?_ | refine eK hL ?_)) | omega | (with_reducible intro _)))
  all_goals ((try simp only [*, decide_true, decide_false, Bool.true_and, Bool.false_and]); (repeat' (first | (simp (disch := omega) only [push_cast, ↓zz, seval, an_tup]) | omega | (with_reducible refine And.intro ?_ ?_))))
theorem values_3_3 (bs dr tk up sm : Int) (p0 p1 p2 : Part) (sets : List (List Span)) (hs : smallB sm = true) (hS : SetsOk [p0, p1, p2] sets) (e2 : p2.at_ = p1.at_) (n01 : ¬ p0.at_ = p1.at_) :
    PC Try.prog 83 [termV ⟨bs, dr, tk, up, sm, [p0, p1, p2]⟩, guardsV sets] (.tup [spansV (valsL ⟨bs, dr, tk, up, sm, [p0, p1, p2]⟩ sets), .bool (inSym (valsL ⟨bs, dr, tk, up, sm, [p0, p1, p2]⟩ sets))]) := by
  have hg := pure_guards sets
  have b0 := right_at (hS.parts p0 (by simp))
  have b1 := right_at (hS.parts p1 (by simp))
  have b2 := right_at (hS.parts p2 (by simp))
  have A0 := acc_one hs
  obtain ⟨T1, P1, A1⟩ := values_step (a := p0.at_) hS A0 (by omega) (by simp)
  have l1 : atL [p0, p1, p2] p0.at_ = [p0] := by simp [atL, e2, n01, Ne.symm (show p0.at_ ≠ p1.at_ from n01)]
  rw [l1] at T1 P1
  obtain ⟨T2, P2, A2⟩ := values_step (a := p1.at_) hS A1 (by omega) (by simp)
  have l2 : atL [p0, p1, p2] p1.at_ = [p1, p2] := by simp [atL, e2, n01, Ne.symm (show p0.at_ ≠ p1.at_ from n01)]
  rw [l2] at T2 P2
  have hv : valsL ⟨bs, dr, tk, up, sm, [p0, p1, p2]⟩ sets = valsF [p0, p1, p2] sets (valsF [p0, p1, p2] sets ([⟨sm, sm⟩]) p0.at_) p1.at_ := by simp [valsL, placesL, placesF, e2, n01, Ne.symm (show p0.at_ ≠ p1.at_ from n01)]
  rw [hv]
  generalize ho1 : valsF [p0, p1, p2] sets ([⟨sm, sm⟩]) p0.at_ = o1 at *
  generalize ht1 : togL [p0] (nth sets p0.at_.toNat) = t1 at *
  generalize ho2 : valsF [p0, p1, p2] sets (o1) p1.at_ = o2 at *
  generalize ht2 : togL [p1, p2] (nth sets p1.at_.toNat) = t2 at *
  have hF := span_First o2 (by have := A2.2; omega)
  have hL := span_Last o2 (by have := A2.2; omega)
  clear hS hv ho1 ht1 l1 ho2 ht2 l2
  refine pc_w' c_term_values ?_
  unfold B_term_values
  (repeat' (first | (simp (disch := omega) only [push_cast, ↓zz, seval]) | (with_reducible refine And.intro ?_ ?_) | (with_reducible refine condW_split ?_ ?_ <;> intro hc <;> (try simp only [push_cast] at hc)) | (with_reducible refine guardW_split ?_ ?_ <;> intro hc <;> (try simp only [push_cast] at hc)) | omega | (with_reducible intro _)))
  refine LoopK_rounds 6 ?_
  (repeat' (first | (simp (disch := omega) only [push_cast, ↓zz, seval, xx, List.mem_cons, List.not_mem_nil, or_false, false_or, not_or, not_false_eq_true, true_or, or_true, findM, setM, e2, n01]) | (with_reducible refine And.intro ?_ ?_) | (with_reducible refine condW_split ?_ ?_ <;> intro hc <;> (try simp only [push_cast] at hc)) | (with_reducible refine guardW_split ?_ ?_ <;> intro hc <;> (try simp only [push_cast] at hc)) | ((with_reducible refine Rounds_next ?_)) | ((with_reducible refine LoopK_X [1, 8] ?_)) | omega | (with_reducible intro _)))
  refine LoopK_head 6 (fun env => [srcOf 1 (env 6)]) [(1, guardsV sets), (6, .map 0 1), (10, spansV [⟨sm, sm⟩]), (53, .lst 1 [.int .i64 p0.at_, .int .i64 p1.at_]), (54, .int .i64 2), (55, .int .i64 0)] [⟨0, 1, true, [.int .i64 p0.at_, partsV [p0], .int .i64 p1.at_, partsV [p1, p2]]⟩] ?_ ?_
  · (repeat' (first | (simp (disch := omega) only [push_cast, ↓zz, seval, e2, n01]) | (with_reducible refine And.intro ?_ ?_) | (with_reducible refine condW_split ?_ ?_ <;> intro hc <;> (try simp only [push_cast] at hc)) | (with_reducible refine guardW_split ?_ ?_ <;> intro hc <;> (try simp only [push_cast] at hc)) | omega | (with_reducible intro _)))
    all_goals (simp only [partV, e2, n01]; done)
  (repeat' (first | (simp (disch := omega) only [push_cast, ↓zz, seval, findM, inSym, hg, e2, n01]) | (with_reducible refine And.intro ?_ ?_) | (with_reducible refine condW_split ?_ ?_ <;> intro hc <;> (try simp only [push_cast] at hc)) | (with_reducible refine guardW_split ?_ ?_ <;> intro hc <;> (try simp only [push_cast] at hc)) | ((with_reducible refine Rounds_next ?_)) | ((with_reducible first | refine eQ T1 ?_ | refine eQ P1 ?_)) | ((with_reducible first | refine eQ T2 ?_ | refine eQ P2 ?_)) | ((with_reducible first | refine eK hF ?_ | refine eK hL ?_)) | omega | (with_reducible intro _)))
  all_goals ((try simp only [*, decide_true, decide_false, Bool.true_and, Bool.false_and]); (repeat' (first | (simp (disch := omega) only [push_cast, ↓zz, seval, an_tup]) | omega | (with_reducible refine And.intro ?_ ?_))))
theorem values_3_4 (bs dr tk up sm : Int) (p0 p1 p2 : Part) (sets : List (List Span)) (hs : smallB sm = true) (hS : SetsOk [p0, p1, p2] sets) (n01 : ¬ p0.at_ = p1.at_) (n02 : ¬ p0.at_ = p2.at_) (n12 : ¬ p1.at_ = p2.at_) :
    PC Try.prog 83 [termV ⟨bs, dr, tk, up, sm, [p0, p1, p2]⟩, guardsV sets] (.tup [spansV (valsL ⟨bs, dr, tk, up, sm, [p0, p1, p2]⟩ sets), .bool (inSym (valsL ⟨bs, dr, tk, up, sm, [p0, p1, p2]⟩ sets))]) := by
  have hg := pure_guards sets
  have b0 := right_at (hS.parts p0 (by simp))
  have b1 := right_at (hS.parts p1 (by simp))
  have b2 := right_at (hS.parts p2 (by simp))
  have A0 := acc_one hs
  obtain ⟨T1, P1, A1⟩ := values_step (a := p0.at_) hS A0 (by omega) (by simp)
  have l1 : atL [p0, p1, p2] p0.at_ = [p0] := by simp [atL, n01, n02, n12, Ne.symm (show p0.at_ ≠ p1.at_ from n01), Ne.symm (show p0.at_ ≠ p2.at_ from n02), Ne.symm (show p1.at_ ≠ p2.at_ from n12)]
  rw [l1] at T1 P1
  obtain ⟨T2, P2, A2⟩ := values_step (a := p1.at_) hS A1 (by omega) (by simp)
  have l2 : atL [p0, p1, p2] p1.at_ = [p1] := by simp [atL, n01, n02, n12, Ne.symm (show p0.at_ ≠ p1.at_ from n01), Ne.symm (show p0.at_ ≠ p2.at_ from n02), Ne.symm (show p1.at_ ≠ p2.at_ from n12)]
  rw [l2] at T2 P2
  obtain ⟨T3, P3, A3⟩ := values_step (a := p2.at_) hS A2 (by omega) (by simp)
  have l3 : atL [p0, p1, p2] p2.at_ = [p2] := by simp [atL, n01, n02, n12, Ne.symm (show p0.at_ ≠ p1.at_ from n01), Ne.symm (show p0.at_ ≠ p2.at_ from n02), Ne.symm (show p1.at_ ≠ p2.at_ from n12)]
  rw [l3] at T3 P3
  have hv : valsL ⟨bs, dr, tk, up, sm, [p0, p1, p2]⟩ sets = valsF [p0, p1, p2] sets (valsF [p0, p1, p2] sets (valsF [p0, p1, p2] sets ([⟨sm, sm⟩]) p0.at_) p1.at_) p2.at_ := by simp [valsL, placesL, placesF, n01, n02, n12, Ne.symm (show p0.at_ ≠ p1.at_ from n01), Ne.symm (show p0.at_ ≠ p2.at_ from n02), Ne.symm (show p1.at_ ≠ p2.at_ from n12)]
  rw [hv]
  generalize ho1 : valsF [p0, p1, p2] sets ([⟨sm, sm⟩]) p0.at_ = o1 at *
  generalize ht1 : togL [p0] (nth sets p0.at_.toNat) = t1 at *
  generalize ho2 : valsF [p0, p1, p2] sets (o1) p1.at_ = o2 at *
  generalize ht2 : togL [p1] (nth sets p1.at_.toNat) = t2 at *
  generalize ho3 : valsF [p0, p1, p2] sets (o2) p2.at_ = o3 at *
  generalize ht3 : togL [p2] (nth sets p2.at_.toNat) = t3 at *
  have hF := span_First o3 (by have := A3.2; omega)
  have hL := span_Last o3 (by have := A3.2; omega)
  clear hS hv ho1 ht1 l1 ho2 ht2 l2 ho3 ht3 l3
  refine pc_w' c_term_values ?_
  unfold B_term_values
  (repeat' (first | (simp (disch := omega) only [push_cast, ↓zz, seval]) | (with_reducible refine And.intro ?_ ?_) | (with_reducible refine condW_split ?_ ?_ <;> intro hc <;> (try simp only [push_cast] at hc)) | (with_reducible refine guardW_split ?_ ?_ <;> intro hc <;> (try simp only [push_cast] at hc)) | omega | (with_reducible intro _)))
  refine LoopK_rounds 6 ?_
  (repeat' (first | (simp (disch := omega) only [push_cast, ↓zz, seval, xx, List.mem_cons, List.not_mem_nil, or_false, false_or, not_or, not_false_eq_true, true_or, or_true, findM, setM, n01, n02, n12]) | (with_reducible refine And.intro ?_ ?_) | (with_reducible refine condW_split ?_ ?_ <;> intro hc <;> (try simp only [push_cast] at hc)) | (with_reducible refine guardW_split ?_ ?_ <;> intro hc <;> (try simp only [push_cast] at hc)) | ((with_reducible refine Rounds_next ?_)) | ((with_reducible refine LoopK_X [1] ?_)) | omega | (with_reducible intro _)))
  refine LoopK_head 6 (fun env => [srcOf 1 (env 6)]) [(1, guardsV sets), (6, .map 0 1), (10, spansV [⟨sm, sm⟩]), (53, .lst 1 [.int .i64 p0.at_, .int .i64 p1.at_, .int .i64 p2.at_]), (54, .int .i64 3), (55, .int .i64 0)] [⟨0, 1, true, [.int .i64 p0.at_, partsV [p0], .int .i64 p1.at_, partsV [p1], .int .i64 p2.at_, partsV [p2]]⟩] ?_ ?_
  · (repeat' (first | (simp (disch := omega) only [push_cast, ↓zz, seval, n01, n02, n12]) | (with_reducible refine And.intro ?_ ?_) | (with_reducible refine condW_split ?_ ?_ <;> intro hc <;> (try simp only [push_cast] at hc)) | (with_reducible refine guardW_split ?_ ?_ <;> intro hc <;> (try simp only [push_cast] at hc)) | omega | (with_reducible intro _)))
    all_goals (simp only [partV, n01, n02, n12]; done)
  (repeat' (first | (simp (disch := omega) only [push_cast, ↓zz, seval, findM, inSym, hg, n01, n02, n12]) | (with_reducible refine And.intro ?_ ?_) | (with_reducible refine condW_split ?_ ?_ <;> intro hc <;> (try simp only [push_cast] at hc)) | (with_reducible refine guardW_split ?_ ?_ <;> intro hc <;> (try simp only [push_cast] at hc)) | ((with_reducible refine Rounds_next ?_)) | ((with_reducible first | refine eQ T1 ?_ | refine eQ P1 ?_)) | ((with_reducible first | refine eQ T2 ?_ | refine eQ P2 ?_)) | ((with_reducible first | refine eQ T3 ?_ | refine eQ P3 ?_)) | ((with_reducible first | refine eK hF ?_ | refine eK hL ?_)) | omega | (with_reducible intro _)))
  all_goals ((try simp only [*, decide_true, decide_false, Bool.true_and, Bool.false_and]); (repeat' (first | (simp (disch := omega) only [push_cast, ↓zz, seval, an_tup]) | omega | (with_reducible refine And.intro ?_ ?_))))
theorem values_3 (bs dr tk up sm : Int) (p0 p1 p2 : Part) (sets : List (List Span)) (hs : smallB sm = true) (hS : SetsOk [p0, p1, p2] sets) :
    PC Try.prog 83 [termV ⟨bs, dr, tk, up, sm, [p0, p1, p2]⟩, guardsV sets] (.tup [spansV (valsL ⟨bs, dr, tk, up, sm, [p0, p1, p2]⟩ sets), .bool (inSym (valsL ⟨bs, dr, tk, up, sm, [p0, p1, p2]⟩ sets))]) := by
  rcases Classical.em (p1.at_ = p0.at_) with e1 | x01
  · skip
    rcases Classical.em (p2.at_ = p0.at_) with e2 | x02
    · skip
      exact values_3_0 bs dr tk up sm p0 p1 p2 sets hs hS e1 e2
    have n02 : ¬ p0.at_ = p2.at_ := fun h => x02 h.symm
    exact values_3_1 bs dr tk up sm p0 p1 p2 sets hs hS e1 n02
  have n01 : ¬ p0.at_ = p1.at_ := fun h => x01 h.symm
  rcases Classical.em (p2.at_ = p0.at_) with e2 | x02
  · skip
    exact values_3_2 bs dr tk up sm p0 p1 p2 sets hs hS e2 n01
  have n02 : ¬ p0.at_ = p2.at_ := fun h => x02 h.symm
  rcases Classical.em (p2.at_ = p1.at_) with e2 | x12
  · skip
    exact values_3_3 bs dr tk up sm p0 p1 p2 sets hs hS e2 n01
  have n12 : ¬ p1.at_ = p2.at_ := fun h => x12 h.symm
  exact values_3_4 bs dr tk up sm p0 p1 p2 sets hs hS n01 n02 n12
end Go.Proofs.Ytdjbcenfgceejaa
set_option linter.unusedSimpArgs false
set_option linter.unusedVariables false
namespace Go.Proofs.Ytdjbcenfgceejaa
open Abs
theorem quo_ex {lo hi D q : Int} (hD : 0 < D) (h : lo ≤ hi) : (∃ x, lo ≤ x ∧ x ≤ hi ∧ x / D = q) ↔ lo / D ≤ q ∧ q ≤ hi / D := by
  constructor
  · rintro ⟨x, h1, h2, rfl⟩
    exact ⟨Int.ediv_le_ediv hD h1, Int.ediv_le_ediv hD h2⟩
  · rintro ⟨h1, h2⟩
    rcases Int.lt_or_eq_of_le h1 with h3 | h3
    · refine ⟨q * D, ?_, ?_, Int.mul_ediv_cancel _ (by omega)⟩
      · have := (Int.ediv_lt_iff_lt_mul hD).1 h3; omega
      · exact (Int.le_ediv_iff_mul_le hD).1 h2
    · exact ⟨lo, Int.le_refl _, h, h3⟩
theorem quo_step {x y M : Int} (hM : 0 < M) (h1 : x ≤ y) (h2 : y - x < M) : y / M = x / M ∨ y / M = x / M + 1 := by
  have a := Int.ediv_le_ediv hM h1
  have c : y / M ≤ (x + M * 1) / M := Int.ediv_le_ediv hM (by omega)
  rw [Int.add_mul_ediv_left _ _ (by omega)] at c
  omega
theorem mod_back {w M k : Int} (h : 0 ≤ w ∧ w < M) : (M * k + w) % M = w := by
  rw [Int.add_comm, Int.add_mul_emod_self_left, Int.emod_eq_of_lt h.1 h.2]
theorem mod_range {a b M w : Int} (hM : 0 < M) (hab : a ≤ b) (hs : b - a < M - 1) :
    (∃ q, a ≤ q ∧ q ≤ b ∧ q % M = w) ↔ if a % M ≤ b % M then a % M ≤ w ∧ w ≤ b % M else (0 ≤ w ∧ w ≤ b % M) ∨ (a % M ≤ w ∧ w ≤ M - 1) := by
  have ea := Int.mul_ediv_add_emod a M
  have eb := Int.mul_ediv_add_emod b M
  have a1 := Int.emod_nonneg a (by omega : M ≠ 0)
  have a2 := Int.emod_lt_of_pos a hM
  have b1 := Int.emod_nonneg b (by omega : M ≠ 0)
  have b2 := Int.emod_lt_of_pos b hM
  constructor
  · rintro ⟨q, h1, h2, rfl⟩
    have eq := Int.mul_ediv_add_emod q M
    have q1 := Int.emod_nonneg q (by omega : M ≠ 0)
    have q2 := Int.emod_lt_of_pos q hM
    have k1 := quo_step hM hab (by omega)
    have k2 := quo_step hM h1 (by omega)
    have e1 : M * (a / M + 1) = M * (a / M) + M := by rw [Int.mul_add, Int.mul_one]
    rcases k1 with k1 | k1 <;> rcases k2 with k2 | k2 <;> rw [k1] at eb <;> rw [k2] at eq <;> (try rw [e1] at eb) <;> (try rw [e1] at eq) <;> split <;> omega
  · intro h
    have k1 := quo_step hM hab (by omega)
    have e1 : M * (a / M + 1) = M * (a / M) + M := by rw [Int.mul_add, Int.mul_one]
    rcases k1 with k1 | k1
    · rw [k1] at eb
      rw [if_pos (by omega)] at h
      exact ⟨M * (a / M) + w, by omega, by omega, mod_back (by omega)⟩
    · rw [k1, e1] at eb
      rw [if_neg (by omega)] at h
      rcases h with h | h
      · exact ⟨M * (a / M + 1) + w, by omega, by omega, mod_back (by omega)⟩
      · exact ⟨M * (a / M) + w, by omega, by omega, mod_back (by omega)⟩
theorem mod_full {a b M w : Int} (hM : 0 < M) (hs : M - 1 ≤ b - a) : (∃ q, a ≤ q ∧ q ≤ b ∧ q % M = w) ↔ 0 ≤ w ∧ w ≤ M - 1 := by
  constructor
  · rintro ⟨q, _, _, rfl⟩
    have q1 := Int.emod_nonneg q (by omega : M ≠ 0)
    have q2 := Int.emod_lt_of_pos q hM
    omega
  · intro h
    have e := Int.mul_ediv_add_emod (w - a) M
    have q1 := Int.emod_nonneg (w - a) (by omega : M ≠ 0)
    have q2 := Int.emod_lt_of_pos (w - a) hM
    refine ⟨a + (w - a) % M, by omega, by omega, ?_⟩
    have : a + (w - a) % M = M * (-((w - a) / M)) + w := by rw [Int.mul_neg]; omega
    rw [this, mod_back (by omega)]
theorem imgS_mem {d t : Nat} {s : Span} {w : Int} (hs : s.lo ≤ s.hi) (hn : ¬ (2 ^ t - 1 : Int) ≤ s.hi / 2 ^ d - s.lo / 2 ^ d) : memL (imgS d t s) w ↔ ∃ x, (s.lo ≤ x ∧ x ≤ s.hi) ∧ x / 2 ^ d % 2 ^ t = w := by
  have hD : (0 : Int) < 2 ^ d := Int.pow_pos (by decide)
  have hT : (0 : Int) < 2 ^ t := Int.pow_pos (by decide)
  have hab := Int.ediv_le_ediv hD hs
  have key : (∃ x, (s.lo ≤ x ∧ x ≤ s.hi) ∧ x / 2 ^ d % 2 ^ t = w) ↔ ∃ q, s.lo / 2 ^ d ≤ q ∧ q ≤ s.hi / 2 ^ d ∧ q % 2 ^ t = w := by
    constructor
    · rintro ⟨x, ⟨h1, h2⟩, h3⟩
      exact ⟨x / 2 ^ d, Int.ediv_le_ediv hD h1, Int.ediv_le_ediv hD h2, h3⟩
    · rintro ⟨q, h1, h2, h3⟩
      obtain ⟨x, k1, k2, k3⟩ := (quo_ex hD hs).2 ⟨h1, h2⟩
      exact ⟨x, ⟨k1, k2⟩, by rw [k3]; exact h3⟩
  rw [key, mod_range hT hab (by omega), imgS]
  split
  · simp [memL_cons, memL_nil]
  · simp [memL_cons, memL_nil]
theorem imgF_mem {d t : Nat} {w : Int} : ∀ (l out : List Span), (∀ s ∈ l, s.lo ≤ s.hi) → (∀ v, memL out v → 0 ≤ v ∧ v ≤ 2 ^ t - 1) → (memL (imgF d t l out) w ↔ memL out w ∨ ∃ x, memL l x ∧ x / 2 ^ d % 2 ^ t = w)
  | [], out, _, _ => by simp [imgF, memL_nil]
  | s :: l, out, h, ho => by
    have hD : (0 : Int) < 2 ^ d := Int.pow_pos (by decide)
    have hT : (0 : Int) < 2 ^ t := Int.pow_pos (by decide)
    have hs := h s (by simp)
    rw [imgF]
    split
    · rename_i hb
      have hf := mod_full (w := w) hT hb
      constructor
      · intro hw
        have hw' : 0 ≤ w ∧ w ≤ 2 ^ t - 1 := by simpa [allS, memL_cons, memL_nil] using hw
        obtain ⟨q, h1, h2, h3⟩ := hf.2 hw'
        obtain ⟨x, k1, k2, k3⟩ := (quo_ex hD hs).2 ⟨h1, h2⟩
        exact .inr ⟨x, memL_cons.2 (.inl ⟨k1, k2⟩), by rw [k3]; exact h3⟩
      · intro hw
        have : 0 ≤ w ∧ w ≤ 2 ^ t - 1 := by
          rcases hw with hw | ⟨x, _, rfl⟩
          · exact ho w hw
          · have q1 := Int.emod_nonneg (x / 2 ^ d) (by omega : (2 : Int) ^ t ≠ 0)
            have q2 := Int.emod_lt_of_pos (x / 2 ^ d) hT
            omega
        simpa [allS, memL_cons, memL_nil] using this
    · rename_i hb
      rw [imgF_mem l _ (fun s hs => h s (by simp [hs])) (fun v hv => ?_), memL_app, imgS_mem hs hb]
      · constructor
        · rintro ((h1 | ⟨x, h1, h2⟩) | ⟨x, h1, h2⟩)
          · exact .inl h1
          · exact .inr ⟨x, memL_cons.2 (.inl h1), h2⟩
          · exact .inr ⟨x, memL_cons.2 (.inr h1), h2⟩
        · rintro (h1 | ⟨x, h1, h2⟩)
          · exact .inl (.inl h1)
          · rcases memL_cons.1 h1 with h1 | h1
            · exact .inl (.inr ⟨x, h1, h2⟩)
            · exact .inr ⟨x, h1, h2⟩
      · rcases memL_app.1 hv with hv | hv
        · exact ho v hv
        · obtain ⟨x, _, rfl⟩ := (imgS_mem hs hb).1 hv
          have q1 := Int.emod_nonneg (x / 2 ^ d) (by omega : (2 : Int) ^ t ≠ 0)
          have q2 := Int.emod_lt_of_pos (x / 2 ^ d) hT
          omega
theorem mem_map {α : Type} {f : α → Span} {l : List α} {v : Int} : memL (l.map f) v ↔ ∃ a ∈ l, (f a).lo ≤ v ∧ v ≤ (f a).hi := by
  simp only [memL, List.mem_map]
  exact ⟨fun ⟨_, ⟨a, h, rfl⟩, h2⟩ => ⟨a, h, h2⟩, fun ⟨a, h, h2⟩ => ⟨_, ⟨a, h, rfl⟩, h2⟩⟩
theorem img_spec {p : Part} (s : List Span) (hb : bitsB p = true) : Plain (imgL p s) ∧ ∀ v, memL (imgL p s) v ↔ ∃ x, memL s x ∧ (0 ≤ x ∧ x ≤ 2097151) ∧ valP p x = v := by
  have hbi := bits_iff.1 hb
  have ht := pow21 p.take.toNat (by omega)
  have hT : (0 : Int) < 2 ^ p.take.toNat := Int.pow_pos (by decide)
  obtain ⟨m1, m2, m3⟩ := meet_top s
  have hF : ∀ w, memL (imgF p.drop.toNat p.take.toNat (meetL (normI s) (normI topS)) []) w ↔ ∃ x, (memL s x ∧ 0 ≤ x ∧ x ≤ 2097151) ∧ x / 2 ^ p.drop.toNat % 2 ^ p.take.toNat = w := fun w => by
    rw [imgF_mem _ _ (fun t ht => (m2 t ht).2.1) (fun v hv => absurd hv (memL_nil v))]
    simp only [memL_nil, false_or, m3]
  have hr : ∀ w, memL (imgF p.drop.toNat p.take.toNat (meetL (normI s) (normI topS)) []) w → 0 ≤ w ∧ w ≤ 2 ^ p.take.toNat - 1 := fun w hw => by
    obtain ⟨x, _, rfl⟩ := (hF w).1 hw
    have q1 := Int.emod_nonneg (x / 2 ^ p.drop.toNat) (by omega : (2 : Int) ^ p.take.toNat ≠ 0)
    have q2 := Int.emod_lt_of_pos (x / 2 ^ p.drop.toNat) hT
    omega
  unfold imgL
  rw [if_neg (by simp [hb])]
  split
  · rename_i hu
    refine ⟨(normI_plain _).1, fun v => ?_⟩
    rw [(normI_plain _).2 v, hF]
    have e : ∀ x, valP p x = x / 2 ^ p.drop.toNat % 2 ^ p.take.toNat := fun x => by simp [valP, hu]
    constructor
    · rintro ⟨⟨x, ⟨h1, h2⟩, h3⟩, _⟩
      exact ⟨x, h1, h2, by rw [e]; exact h3⟩
    · rintro ⟨x, h1, h2, h3⟩
      rw [e] at h3
      have := hr v ((hF v).2 ⟨x, ⟨h1, h2⟩, h3⟩)
      exact ⟨⟨x, ⟨h1, h2⟩, h3⟩, by omega⟩
  · rename_i hu
    refine ⟨(normI_plain _).1, fun v => ?_⟩
    rw [(normI_plain _).2 v, mem_map]
    constructor
    · rintro ⟨⟨n, hn, h1, h2⟩, _⟩
      simp only [oneS] at h1 h2
      have hn' := nums_mem.1 hn
      rw [(normI_plain _).2, (normI_plain _).2] at hn'
      obtain ⟨x, ⟨k1, k2⟩, k3⟩ := (hF n).1 hn'.1.1
      exact ⟨x, k1, k2, by rw [valP, k3]; omega⟩
    · rintro ⟨x, h1, h2, h3⟩
      have hv := valP_small hb h2
      have hm := (hF (x / 2 ^ p.drop.toNat % 2 ^ p.take.toNat)).2 ⟨x, ⟨h1, h2⟩, rfl⟩
      have := hr _ hm
      refine ⟨⟨x / 2 ^ p.drop.toNat % 2 ^ p.take.toNat, nums_mem.2 ?_, ?_⟩, by omega⟩
      · rw [(normI_plain _).2, (normI_plain _).2]
        exact ⟨⟨hm, by omega⟩, by omega⟩
      · rw [valP] at h3
        simp only [oneS]
        omega
def Full (l : List Span) : Prop := ∀ s ∈ l, s.lo ≤ s.hi
theorem plus_spec {a b : List Span} (ha : Full a) (hb : Full b) : Plain (plusL a b) ∧ ∀ v, memL (plusL a b) v ↔ (∃ x y, memL a x ∧ memL b y ∧ x + y = v) ∧ -1073741824 ≤ v ∧ v ≤ 1073741824 := by
  refine ⟨(normI_plain _).1, fun v => ?_⟩
  rw [plusL, (normI_plain _).2 v, rowsP, mem_flat]
  refine and_congr_left fun _ => ?_
  constructor
  · rintro ⟨s, hs, h⟩
    obtain ⟨r, hr, h1, h2⟩ := mem_map.1 h
    simp only [sumS] at h1 h2
    have k1 := ha s hs
    have k2 := hb r hr
    refine ⟨max s.lo (v - r.hi), v - max s.lo (v - r.hi), ⟨s, hs, by omega, by omega⟩, ⟨r, hr, by omega, by omega⟩, by omega⟩
  · rintro ⟨x, y, ⟨s, hs, h1, h2⟩, ⟨r, hr, h3, h4⟩, rfl⟩
    exact ⟨s, hs, mem_map.2 ⟨r, hr, by simp only [sumS]; omega, by simp only [sumS]; omega⟩⟩
theorem addS_full {out : List Span} {n : Int} (h : Full out) : Full (addS out ⟨n, n⟩) ∧ ∀ v, memL (addS out ⟨n, n⟩) v ↔ memL out v ∨ v = n := by
  rcases snoc_cases out with rfl | ⟨m, y, rfl⟩
  · refine ⟨fun s hs => ?_, fun v => ?_⟩
    · simp only [addS_nil, List.mem_singleton] at hs; subst hs; simp
    · rw [addS_nil, memL_cons]; simp only [memL_nil, or_false, false_or]; omega
  · have hy := h y (by simp)
    rw [addS_snoc]
    simp only
    split
    · rename_i he
      refine ⟨fun s hs => ?_, fun v => ?_⟩
      · rcases List.mem_append.1 hs with hs | hs
        · exact h s (by simp [hs])
        · simp only [List.mem_singleton] at hs; subst hs; simp only; omega
      · rw [memL_app, memL_app, memL_cons, memL_cons]
        simp only [memL_nil, or_false]
        constructor
        · rintro (h1 | h1)
          · exact .inl (.inl h1)
          · by_cases hv : v = n
            · exact .inr hv
            · exact .inl (.inr (by omega))
        · rintro ((h1 | h1) | h1)
          · exact .inl h1
          · exact .inr (by omega)
          · exact .inr (by omega)
    · refine ⟨fun s hs => ?_, fun v => ?_⟩
      · rcases List.mem_append.1 hs with hs | hs
        · exact h s hs
        · simp only [List.mem_singleton] at hs; subst hs; simp
      · rw [memL_app, memL_cons]
        simp only [memL_nil, or_false]
        have : (n ≤ v ∧ v ≤ n) ↔ v = n := by omega
        rw [this]
theorem tog_fold (l : List Part) {v : Int} : ∀ (m : List Int) (out : List Span), Full out → (memL (m.foldl (togF l) out) v ↔ memL out v ∨ ∃ x ∈ m, totV l x = v)
  | [], out, _ => by simp
  | x :: m, out, h => by
    obtain ⟨h1, h2⟩ := addS_full (n := totV l x) h
    rw [List.foldl_cons, togF, tog_fold l m _ h1, h2]
    simp only [List.mem_cons, exists_eq_or_imp]
    constructor
    · rintro ((h | h) | h)
      · exact .inl h
      · exact .inr (.inl h.symm)
      · exact .inr (.inr h)
    · rintro (h | h | h)
      · exact .inl (.inl h)
      · exact .inl (.inr h.symm)
      · exact .inr h
theorem tog_spec {l : List Part} {s : List Span} (hl : l.length ≤ 4) (hb : ∀ p ∈ l, bitsB p = true) (hs : Syms s) : Plain (togL l s) ∧ ∀ v, memL (togL l s) v ↔ ∃ x, memL s x ∧ totV l x = v := by
  unfold togL
  split
  · rename_i h1
    obtain ⟨p, rfl⟩ := List.length_eq_one_iff.1 h1
    obtain ⟨i1, i2⟩ := img_spec s (hb p (by simp))
    refine ⟨i1, fun v => ?_⟩
    have e : nth [p] 0 = p := rfl
    rw [e, i2]
    have e2 : ∀ x, totV [p] x = valP p x := fun x => by simp [totV]
    constructor
    · rintro ⟨x, h1, _, h3⟩; exact ⟨x, h1, by rw [e2]; exact h3⟩
    · rintro ⟨x, h1, h3⟩
      have := hs.mem h1
      exact ⟨x, h1, by omega, by rw [← e2]; exact h3⟩
  · refine ⟨(normI_plain _).1, fun v => ?_⟩
    rw [(normI_plain _).2 v, tog_fold l _ _ (fun s hs => by cases hs), syms_norm hs]
    simp only [memL_nil, false_or, nums_mem]
    constructor
    · rintro ⟨h, _⟩; exact h
    · rintro ⟨x, h1, rfl⟩
      have := hs.mem h1
      have := totV_bd (x := x) (by omega) hb
      exact ⟨⟨x, h1, rfl⟩, by omega⟩
end Go.Proofs.Ytdjbcenfgceejaa
set_option linter.unusedSimpArgs false
set_option linter.unusedVariables false
namespace Go.Proofs.Ytdjbcenfgceejaa
open Abs
def Win (sets : List (List Span)) (w : List Int) : Prop := w.length = sets.length ∧ ∀ i, i < sets.length → memL (nth sets i) (nth w i)
def sumPl (l : List Part) (pl : List Int) (w : List Int) : Int := (pl.map fun a => totV (atL l a) (nth w a.toNat)).sum
def totW (w : List Int) (l : List Part) : Int := (l.map fun p => valP p (nth w p.at_.toNat)).sum
theorem nth_set {w : List Int} {i j : Nat} {x : Int} (h : i < w.length) : nth (w.set i x) j = if j = i then x else nth w j := by
  simp only [nth, List.getD_eq_getElem?_getD, List.getElem?_set]
  split
  · subst_vars; simp [h]
  · rename_i hne; rw [if_neg (fun e => hne e.symm)]
theorem map_sum_congr {α : Type} {f g : α → Int} : ∀ {l : List α}, (∀ a ∈ l, f a = g a) → (l.map f).sum = (l.map g).sum
  | [], _ => rfl
  | a :: l, h => by simp [h a (by simp), map_sum_congr (l := l) fun b hb => h b (by simp [hb])]
theorem map_sum_add {α : Type} {f g : α → Int} : ∀ {l : List α}, (l.map fun a => f a + g a).sum = (l.map f).sum + (l.map g).sum
  | [] => rfl
  | a :: l => by
    have := map_sum_add (f := f) (g := g) (l := l)
    simp only [List.map_cons, List.sum_cons, this]
    omega
theorem map_sum_zero {α : Type} {f : α → Int} : ∀ {l : List α}, (∀ a ∈ l, f a = 0) → (l.map f).sum = 0
  | [], _ => rfl
  | a :: l, h => by simp [h a (by simp), map_sum_zero (l := l) fun b hb => h b (by simp [hb])]
theorem map_sum_one {c : Int} {g : Int → Int} : ∀ {l : List Int}, l.Nodup → c ∈ l → (l.map fun a => if c = a then g a else 0).sum = g c
  | [], _, h => by cases h
  | a :: l, hn, h => by
    obtain ⟨h1, h2⟩ := List.nodup_cons.1 hn
    by_cases e : c = a
    · subst e
      have : (l.map fun a => if c = a then g a else 0).sum = 0 := map_sum_zero fun b hb => if_neg fun (e2 : c = b) => h1 (by rw [e2]; exact hb)
      simp [this]
    · have hm : c ∈ l := by simpa [e] using h
      simp [e, map_sum_one h2 hm]
theorem sum_places (w : List Int) : ∀ (l : List Part) (pl : List Int), pl.Nodup → (∀ p ∈ l, p.at_ ∈ pl) → sumPl l pl w = totW w l
  | [], pl, _, _ => map_sum_zero fun a _ => rfl
  | p :: l, pl, hn, h => by
    have ih := sum_places w l pl hn fun q hq => h q (by simp [hq])
    have e : ∀ a ∈ pl, totV (atL (p :: l) a) (nth w a.toNat) = (if p.at_ = a then valP p (nth w a.toNat) else 0) + totV (atL l a) (nth w a.toNat) := fun a _ => by
      simp only [atL, List.filter_cons, decide_eq_true_eq]
      split
      · simp [totV]
      · simp [totV]
    rw [sumPl, map_sum_congr e, map_sum_add, map_sum_one (g := fun a => valP p (nth w a.toNat)) hn (h p (by simp))]
    rw [sumPl] at ih
    rw [ih]
    simp [totW]
theorem places_spec : ∀ (l : List Part) (pl : List Int), pl.Nodup → (l.foldl placesF pl).Nodup ∧ (∀ a, a ∈ l.foldl placesF pl ↔ a ∈ pl ∨ ∃ p ∈ l, p.at_ = a) ∧ (l.foldl placesF pl).length ≤ pl.length + l.length
  | [], pl, h => ⟨h, fun a => by simp, by simp⟩
  | p :: l, pl, h => by
    have h1 : (placesF pl p).Nodup ∧ (∀ a, a ∈ placesF pl p ↔ a ∈ pl ∨ p.at_ = a) ∧ (placesF pl p).length ≤ pl.length + 1 := by
      unfold placesF
      split
      · rename_i hm
        exact ⟨h, fun a => ⟨.inl, fun hh => hh.elim id fun e => e ▸ hm⟩, by omega⟩
      · rename_i hm
        refine ⟨List.nodup_append.2 ⟨h, by simp, fun a ha b hb => ?_⟩, fun a => by simp [eq_comm], by simp⟩
        simp only [List.mem_singleton] at hb
        subst hb
        exact fun e => hm (e ▸ ha)
    obtain ⟨k1, k2, k3⟩ := places_spec l (placesF pl p) h1.1
    refine ⟨k1, fun a => ?_, by have := h1.2.2; simp only [List.foldl_cons, List.length_cons]; omega⟩
    rw [List.foldl_cons, k2, h1.2.1]
    simp only [List.mem_cons, exists_eq_or_imp, or_assoc]
theorem full_plain {l : List Span} (h : Plain l) : Full l := h.1
theorem win_set {sets : List (List Span)} {w : List Int} {a : Nat} {x : Int} (hw : Win sets w) (ha : a < sets.length) (hx : memL (nth sets a) x) : Win sets (w.set a x) := by
  refine ⟨by simp [hw.1], fun i hi => ?_⟩
  rw [nth_set (by rw [hw.1]; exact ha)]
  split
  · subst_vars; exact hx
  · exact hw.2 i hi
theorem vals_fold {l : List Part} {sets : List (List Span)} (hS : SetsOk l sets) (hl : l.length ≤ 4) (hne : ∃ w, Win sets w) : ∀ (pl : List Int) (out : List Span), pl.Nodup → (∀ a ∈ pl, 0 ≤ a ∧ a < sets.length) → Full out → pl.length ≤ 4 →
    (∀ v, memL out v → -1114111 ≤ v ∧ v ≤ 1114111 + (4 - (pl.length : Int)) * 264241152) → Full (pl.foldl (valsF l sets) out) ∧ ∀ v, memL (pl.foldl (valsF l sets) out) v ↔ ∃ o w, memL out o ∧ Win sets w ∧ o + sumPl l pl w = v
  | [], out, _, _, hf, _, _ => ⟨hf, fun v => by
    obtain ⟨w, hw⟩ := hne
    simp only [List.foldl_nil, sumPl, List.map_nil, List.sum_nil, Int.add_zero]
    exact ⟨fun h => ⟨v, w, h, hw, rfl⟩, fun ⟨o, _, h, _, e⟩ => e ▸ h⟩⟩
  | a :: pl, out, hn, hp, hf, hlen, hb => by
    obtain ⟨n1, n2⟩ := List.nodup_cons.1 hn
    have ha := hp a (by simp)
    have hm : nth sets a.toNat ∈ sets := nth_mem (by omega)
    have hsy := hS.syms _ hm
    have hbits : ∀ p ∈ atL l a, bitsB p = true := fun p hp => by
      have := hS.parts p ((List.mem_filter.1 hp).1)
      simp only [rightB, Bool.and_eq_true] at this
      exact this.2
    have hla : (atL l a).length ≤ 4 := Nat.le_trans (List.length_filter_le _ _) hl
    obtain ⟨t1, t2⟩ := tog_spec hla hbits hsy
    obtain ⟨p1, p2⟩ := plus_spec hf (full_plain t1)
    have htot : ∀ x, memL (nth sets a.toNat) x → 0 ≤ totV (atL l a) x ∧ totV (atL l a) x ≤ 264241152 := fun x hx => by
      have := hsy.mem hx
      have := totV_bd (x := x) (by omega) hbits
      omega
    simp only [List.length_cons] at hlen hb
    have hv : ∀ v, memL (valsF l sets out a) v ↔ ∃ o x, memL out o ∧ memL (nth sets a.toNat) x ∧ o + totV (atL l a) x = v := fun v => by
      rw [valsF, p2]
      constructor
      · rintro ⟨⟨o, y, h1, h2, h3⟩, _⟩
        obtain ⟨x, k1, k2⟩ := (t2 y).1 h2
        exact ⟨o, x, h1, k1, by rw [k2]; exact h3⟩
      · rintro ⟨o, x, h1, h2, rfl⟩
        have := hb o h1
        have := htot x h2
        push_cast at *
        exact ⟨⟨o, _, h1, (t2 _).2 ⟨x, h2, rfl⟩, rfl⟩, by omega, by omega⟩
    obtain ⟨i1, i2⟩ := vals_fold hS hl hne pl (valsF l sets out a) n2 (fun b hb => hp b (by simp [hb])) (full_plain p1) (by omega) (fun v h => by
      obtain ⟨o, x, h1, h2, rfl⟩ := (hv v).1 h
      have := hb o h1
      have := htot x h2
      push_cast at *
      omega)
    refine ⟨i1, fun v => ?_⟩
    rw [List.foldl_cons, i2]
    constructor
    · rintro ⟨u, w, h1, hw, rfl⟩
      obtain ⟨o, x, k1, k2, rfl⟩ := (hv u).1 h1
      refine ⟨o, w.set a.toNat x, k1, win_set hw (by omega) k2, ?_⟩
      have e1 : sumPl l pl (w.set a.toNat x) = sumPl l pl w := map_sum_congr fun b hb => by
        have := hp b (by simp [hb])
        rw [nth_set (by rw [hw.1]; omega), if_neg]
        intro e
        exact n1 ((show b = a by omega) ▸ hb)
      have e2 : sumPl l (a :: pl) (w.set a.toNat x) = totV (atL l a) x + sumPl l pl (w.set a.toNat x) := by
        simp only [sumPl, List.map_cons, List.sum_cons]
        rw [nth_set (by rw [hw.1]; omega), if_pos rfl]
      rw [e2, e1]
      omega
    · rintro ⟨o, w, h1, hw, rfl⟩
      have hx := hw.2 a.toNat (by omega)
      refine ⟨o + totV (atL l a) (nth w a.toNat), w, (hv _).2 ⟨o, _, h1, hx, rfl⟩, hw, ?_⟩
      simp only [sumPl, List.map_cons, List.sum_cons]
      omega
theorem full_one (x : Int) : Full [⟨x, x⟩] := fun s hs => by simp only [List.mem_singleton] at hs; subst hs; simp
theorem mem_one {x v : Int} : memL [⟨x, x⟩] v ↔ v = x := by rw [memL_cons]; simp only [memL_nil, or_false]; omega
theorem vals_spec {t : Term} {sets : List (List Span)} (hS : SetsOk t.parts sets) (hl : t.parts.length ≤ 4) (hs : smallB t.sum = true) (hne : ∃ w, Win sets w) : Full (valsL t sets) ∧ ∀ v, memL (valsL t sets) v ↔ ∃ w, Win sets w ∧ t.sum + totW w t.parts = v := by
  obtain ⟨k1, k2, k3⟩ := places_spec t.parts [] (by simp)
  have hsm := small_bd hs
  simp only [List.length_nil] at k3
  have hat : ∀ a, a ∈ placesL t.parts → 0 ≤ a ∧ a < sets.length := fun a ha => by
    obtain h | ⟨p, hp, rfl⟩ := (k2 a).1 ha
    · cases h
    · exact right_at (hS.parts p hp)
  obtain ⟨h1, h2⟩ := vals_fold hS hl hne (placesL t.parts) [⟨t.sum, t.sum⟩] k1 hat (full_one _) (by rw [placesL]; omega) (fun v hv => by
    rw [mem_one] at hv
    have : (placesL t.parts).length ≤ 4 := by rw [placesL]; omega
    omega)
  refine ⟨h1, fun v => ?_⟩
  rw [valsL, h2]
  constructor
  · rintro ⟨o, w, e, hw, rfl⟩
    rw [mem_one] at e
    exact ⟨w, hw, by rw [e, placesL, sum_places w _ _ k1 fun p hp => (k2 _).2 (.inr ⟨p, hp, rfl⟩)]⟩
  · rintro ⟨w, hw, rfl⟩
    exact ⟨_, w, mem_one.2 rfl, hw, by rw [placesL, sum_places w _ _ k1 fun p hp => (k2 _).2 (.inr ⟨p, hp, rfl⟩)]⟩
theorem totW_bd {w : List Int} {n : Int} : ∀ {l : List Part}, (∀ p ∈ l, rightB p n = true) → (∀ p ∈ l, 0 ≤ nth w p.at_.toNat ∧ nth w p.at_.toNat ≤ 1114111) → totP w l = totW w l ∧ 0 ≤ totW w l ∧ totW w l ≤ l.length * 66060288
  | [], _, _ => by simp [totP, totW]
  | p :: l, h, hx => by
    obtain ⟨i1, i2, i3⟩ := totW_bd (l := l) (fun q hq => h q (by simp [hq])) (fun q hq => hx q (by simp [hq]))
    have hr := h p (by simp)
    simp only [rightB, Bool.and_eq_true] at hr
    have hxp := hx p (by simp)
    have hv := valP_small hr.2 (x := nth w p.at_.toNat) (by omega)
    have e1 : val1 p (nth w p.at_.toNat) = valP p (nth w p.at_.toNat) := (val_yes hr.2 (by omega)).2
    have e2 : totW w (p :: l) = valP p (nth w p.at_.toNat) + totW w l := by simp [totW]
    rw [totP, e1, e2, i1]
    refine ⟨rfl, by omega, ?_⟩
    push_cast [List.length_cons]
    omega
theorem value_win {t : Term} {sets : List (List Span)} {w : List Int} (hS : SetsOk t.parts sets) (hn : numbersB t = true) (hw : Win sets w) :
    valueT t w = if 0 ≤ t.sum + totW w t.parts ∧ t.sum + totW w t.parts ≤ 1114111 then some (t.base + valP t.outer (t.sum + totW w t.parts)) else none := by
  simp only [numbersB, Bool.and_eq_true, decide_eq_true_eq] at hn
  obtain ⟨⟨⟨hb, hs⟩, ho⟩, _, hl⟩ := hn
  have hsm := small_bd hs
  have hbm := small_bd hb
  have hsym : ∀ i, i < sets.length → 0 ≤ nth w i ∧ nth w i ≤ 1114111 := fun i hi => (hS.syms _ (nth_mem hi)).mem (hw.2 i hi)
  obtain ⟨e1, b1, b2⟩ := totW_bd (w := w) hS.parts (fun p hp => by
    have := right_at (hS.parts p hp)
    exact hsym _ (by omega))
  have hall : w.all symB = true := by
    rw [List.all_eq_true]
    intro x hx
    obtain ⟨i, hi, rfl⟩ := List.getElem_of_mem hx
    have := hsym i (by rw [← hw.1]; exact hi)
    have e : nth w i = w[i] := by simp [nth, hi]
    rw [e] at this
    simp [symB]; omega
  have hright : rightsL w t.parts = true := by
    rw [rightsL, List.all_eq_true]
    intro p hp
    rw [hw.1]
    exact hS.parts p hp
  have hsum := sum_tot w t.parts t.sum (wr_in (by omega))
  rw [if_pos hright, e1, wr_in (by omega)] at hsum
  unfold valueT
  rw [if_pos hall, hsum]
  simp only
  by_cases h : 0 ≤ t.sum + totW w t.parts ∧ t.sum + totW w t.parts ≤ 1114111
  · have hvb : valB t.outer (t.sum + totW w t.parts) = true := (val_yes ho (by omega)).1
    have hv2 := valP_small ho (x := t.sum + totW w t.parts) (by omega)
    rw [if_pos h, if_pos (by simp [hvb]; omega), show IntKind.i64.wrap (t.base + valP t.outer (t.sum + totW w t.parts)) = t.base + valP t.outer (t.sum + totW w t.parts) from IntWalk.i64_in _ (by omega)]
  · rw [if_neg h, if_neg]
    simp only [valB, ho, Bool.true_and, Bool.and_eq_true, decide_eq_true_eq]
    omega
end Go.Proofs.Ytdjbcenfgceejaa
