/-
  Contracts of layer 10's reference: what stands at a place is what the table says.
-/
import Derived.Test.YtdmjhlofphhldaaU10
set_option linter.unusedSimpArgs false
set_option linter.unusedVariables false
namespace Go.Proofs.Ytdmjhlofphhldaa
open Abs
theorem ref10_scalar (l : List Int) (h1 : 1 ≤ l.length) (h4 : l.length ≤ 4) (h : ∀ x ∈ l, 0 ≤ x ∧ x ≤ 255) : PC Try.prog 27 [bytesV l] (.tup [.int .i32 (refS l).1, .bool (refS l).2]) := by
  match l, h1, h4, h with
  | [a], _, _, h => exact ref10_scalar1 a (h a (by simp))
  | [a, b], _, _, h => have ha := h a (by simp); have hb := h b (by simp); exact ref10_scalar2 a b (by omega)
  | [a, b, c], _, _, h => have ha := h a (by simp); have hb := h b (by simp); have hc := h c (by simp); exact ref10_scalar3 a b c (by omega)
  | [a, b, c, d], _, _, h => have ha := h a (by simp); have hb := h b (by simp); have hc := h c (by simp); have hd := h d (by simp); exact ref10_scalar4 a b c d (by omega)
  | _ :: _ :: _ :: _ :: _ :: _, _, h4, _ => simp at h4
def begB (l : List Int) (n : Nat) : Bool := match l with
  | [a, b] => if n = 3 then decide (pairOk a b ∧ a ≤ 239) else decide (pairOk a b ∧ 240 ≤ a)
  | [a, b, c] => decide (pairOk a b ∧ 240 ≤ a ∧ 128 ≤ c ∧ c ≤ 191)
  | _ => false
theorem ref10_begins (l : List Int) (n : Nat) (hn : l.length = 2 ∧ (n = 3 ∨ n = 4) ∨ l.length = 3 ∧ n = 4) (h : ∀ x ∈ l, 0 ≤ x ∧ x ≤ 255) : PC Try.prog 28 [bytesV l, .int .i64 n] (.bool (begB l n)) := by
  match l, hn, h with
  | [], hn, _ => simp at hn
  | [_], hn, _ => simp at hn
  | [a, b], hn, h =>
    have ha := h a (by simp); have hb := h b (by simp)
    have hn : n = 3 ∨ n = 4 := by simpa using hn
    rcases hn with rfl | rfl
    · exact ref10_begins23 a b (by omega)
    · exact ref10_begins24 a b (by omega)
  | [a, b, c], hn, h =>
    have ha := h a (by simp); have hb := h b (by simp); have hc := h c (by simp)
    obtain rfl : n = 4 := by simpa using hn
    exact ref10_begins34 a b c (by omega)
  | _ :: _ :: _ :: _ :: _, hn, _ => simp at hn

/-! ### Plain -/
theorem refX_enc {x : Int} (h : scalarB x = true) : refX (encI x) = x := by
  have hs := scalar_iff.1 h
  rw [encI]
  split
  · simp [refX]
  split
  · simp only [refX]; omega
  split
  · simp only [refX]; omega
  · simp only [refX]; omega
theorem refS_yes {l : List Int} (h : (refS l).2 = true) : scalarB (refS l).1 = true ∧ encI (refS l).1 = l := by
  unfold refS at h ⊢
  split at h
  · rename_i hh
    rw [if_pos hh]
    obtain ⟨h1, h2, h3⟩ := hh
    unfold encL at h3
    split at h3
    · rename_i hs; exact ⟨hs, h3⟩
    · subst h3; simp [refX] at h h1; rename_i hs; exact absurd (by decide) hs
  · cases h
theorem refS_of {x : Int} (h : scalarB x = true) : refS (encI x) = (x, true) := by
  have hs := scalar_iff.1 h
  rw [refS, refX_enc h, encL_eq h, if_pos ⟨by omega, by omega, rfl⟩]
theorem scan_full {x : Int} (h : scalarB x = true) (r : List Int) : scanR tableL (encI x ++ r) 1 = (x, (encI x).length, true) := by
  have he := enc_len x
  have hs := scan_enc h
  cases hx : encI x with
  | nil => rw [hx] at he; simp at he
  | cons a t =>
    rw [hx] at hs
    rw [scanR_valid r tableL a t 1 (fun r hr => (table_fits r hr).1) table_apart (by rw [hs]), hs]
/-- What the reference takes for a scalar's bytes, the table does. -/
theorem scan_hit {d : List Int} {n : Nat} (hb : ∀ x ∈ d, 0 ≤ x ∧ x ≤ 255) (hn : n ≤ d.length) (h : (refS (d.take n)).2 = true) : scanR tableL d 1 = ((refS (d.take n)).1, n, true) := by
  obtain ⟨h1, h2⟩ := refS_yes h
  have := scan_full h1 (d.drop n)
  rw [h2, List.take_append_drop, List.length_take, Nat.min_eq_left hn] at this
  exact this
theorem scan_miss {d : List Int} (hne : d ≠ []) (hb : ∀ x ∈ d, 0 ≤ x ∧ x ≤ 255) (h : ∀ n, 1 ≤ n → n ≤ 4 → n ≤ d.length → (refS (d.take n)).2 = false) : (scanR tableL d 1).2.2 = false := by
  cases hd : d with
  | nil => exact absurd hd hne
  | cons a r =>
    rw [hd] at hb h
    cases hs : (scanR tableL (a :: r) 1).2.2 with
    | false => rfl
    | true =>
      obtain ⟨h1, h2⟩ := scan_ok hb
      have h2 := h2 hs
      have hz := scan_size (b := a :: r) (by simp)
      have he := enc_len (scanR tableL (a :: r) 1).1
      have hl := congrArg List.length h2
      rw [List.length_take, Nat.min_eq_left hz.2] at hl
      have := h _ hz.1 (by omega) hz.2
      rw [← h2, refS_of h1] at this
      cases this
def mostA (d : List Int) : Nat := if begB (d.take 2) 3 || begB (d.take 2) 4 then 2 else 1
def mostB (d : List Int) : Nat := if begB (d.take 3) 4 then 3 else mostA d
def mostM (d : List Int) : Nat := if d.length < 2 then 1 else if d.length < 3 then mostA d else mostB d
theorem scan_most {d : List Int} (hne : d ≠ []) (hb : ∀ x ∈ d, 0 ≤ x ∧ x ≤ 255) (h : (scanR tableL d 1).2.2 = false) : scanR tableL d 1 = (65533, mostM d, false) := by
  cases hd : d with
  | nil => exact absurd hd hne
  | cons a r =>
    rw [hd] at hb h
    rw [scan_x hb] at h ⊢
    have ha := hb a (by simp)
    unfold mostM mostB mostA
    match r with
    | [] =>
      rw [scanX.eq_def] at h ⊢
      by_cases c1 : a ≤ 127
      · simp [c1] at h
      · simp [c1]
    | b :: r =>
      have hb1 := hb b (by simp)
      have h2 : (a :: b :: r).take 2 = [a, b] := rfl
      rw [h2]
      rw [scanX.eq_def] at h ⊢
      simp only at h ⊢
      simp only [begB, ↓reduceIte, Nat.reduceEqDiff, Bool.or_eq_true, decide_eq_true_eq]
      by_cases c1 : a ≤ 127
      · rw [if_pos c1] at h; cases h
      rw [if_neg c1] at h ⊢
      by_cases c2 : a < 194 ∨ 244 < a
      · have hp : ¬ pairOk a b := by unfold pairOk; omega
        rw [if_pos c2]
        match r with
        | [] => simp [hp]
        | c :: r => simp [hp]
      rw [if_neg c2] at h ⊢
      by_cases c3 : a ≤ 223
      · have hp : ¬ pairOk a b := by unfold pairOk; omega
        rw [if_pos c3] at h ⊢
        cases c4 : contB b with
        | true => rw [c4] at h; cases h
        | false =>
          match r with
          | [] => simp [hp]
          | c :: r => simp [hp]
      rw [if_neg c3] at h ⊢
      by_cases hp : pairOk a b
      · rw [if_neg (by simpa using hp)] at h ⊢
        have hq : (pairOk a b ∧ a ≤ 239) ∨ (pairOk a b ∧ 240 ≤ a) := by
          by_cases h9 : a ≤ 239
          · exact .inl ⟨hp, h9⟩
          · exact .inr ⟨hp, by omega⟩
        match r with
        | [] => simp [hq]
        | c :: r =>
          have hb2 := hb c (by simp)
          simp only at h ⊢
          rw [if_pos hq]
          cases c5 : contB c with
          | false =>
            have := cont_no c5
            have hn : ¬ (pairOk a b ∧ 240 ≤ a ∧ 128 ≤ c ∧ c ≤ 191) := by omega
            simp [hn]
          | true =>
            have := cont_yes c5
            rw [c5] at h
            simp only [not_true_eq_false, ↓reduceIte] at h ⊢
            by_cases c6 : a ≤ 239
            · rw [if_pos c6] at h; cases h
            rw [if_neg c6] at h ⊢
            have hy : pairOk a b ∧ 240 ≤ a ∧ 128 ≤ c ∧ c ≤ 191 := ⟨hp, by omega, by omega, by omega⟩
            match r with
            | [] => simp [hy]
            | e :: r =>
              simp only at h ⊢
              cases c7 : contB e with
              | true => rw [c7] at h; cases h
              | false => simp [hy]; rw [if_neg (by omega), if_neg (by omega)]
      · rw [if_pos hp] at h ⊢
        match r with
        | [] => simp [hp]
        | c :: r => simp [hp]
end Go.Proofs.Ytdmjhlofphhldaa
