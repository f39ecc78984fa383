/-
  The plain law: a scalar's bytes are scanned as that scalar, whole.
-/
import Derived.Test.YtdmjhlofphhldaaW5
set_option linter.unusedSimpArgs false
set_option linter.unusedVariables false
namespace Go.Proofs.Ytdmjhlofphhldaa
open Abs

theorem hasI_one (lo hi x : Int) (h : -1073741824 ≤ x ∧ x ≤ 1073741824) : (hasI [(lo, hi)] x = true) = (lo ≤ x ∧ x ≤ hi) := by
  simp [hasI, h.1, h.2]
theorem scan_no {r : List (List (Int × Int))} {rs : List (List (List (Int × Int)))} {b : List Int} {m : Nat} (h : matchN r b ≠ r.length) : scanR (r :: rs) b m = scanR rs b (max m (matchN r b)) := by rw [scanR, if_neg h]
theorem scan_yes {r : List (List (Int × Int))} {rs : List (List (List (Int × Int)))} {b : List Int} {m : Nat} (h : matchN r b = r.length) : scanR (r :: rs) b m = (valueI (b.take r.length), r.length, true) := by rw [scanR, if_pos h]
theorem match_fits : ∀ (r : List (List (Int × Int))) (b : List Int), matchN r b = r.length ↔ ∃ c d, b = c ++ d ∧ c.length = r.length ∧ ∀ p ∈ List.zip r c, hasI p.1 p.2 = true
  | [], b => by simp [matchN]
  | s :: r, [] => by simp [matchN]
  | s :: r, x :: b => by
    rw [matchN]
    split
    · rename_i h
      rw [List.length_cons, Nat.add_right_cancel_iff, match_fits r b]
      constructor
      · rintro ⟨c, d, rfl, h1, h2⟩
        refine ⟨x :: c, d, rfl, by simp [h1], ?_⟩
        simp only [List.zip_cons_cons, List.forall_mem_cons]
        exact ⟨h, h2⟩
      · rintro ⟨c, d, h1, h2, h3⟩
        match c, h1, h2, h3 with
        | y :: c, h1, h2, h3 =>
          simp only [List.cons_append, List.cons.injEq] at h1
          obtain ⟨rfl, rfl⟩ := h1
          simp only [List.zip_cons_cons, List.forall_mem_cons] at h3
          exact ⟨c, d, rfl, by simpa using h2, h3.2⟩
    · rename_i h
      simp only [List.length_cons]
      constructor
      · intro h0; omega
      · rintro ⟨c, d, h1, h2, h3⟩
        match c, h1, h2, h3 with
        | y :: c, h1, h2, h3 =>
          simp only [List.cons_append, List.cons.injEq] at h1
          obtain ⟨rfl, rfl⟩ := h1
          simp only [List.zip_cons_cons, List.forall_mem_cons] at h3
          exact absurd h3.1 h
theorem row_first {lo hi lo2 hi2 : Int} {more : Nat} {a : Int} {b : List Int} (ha : 0 ≤ a ∧ a ≤ 255) (h : ¬ (lo ≤ a ∧ a ≤ hi)) : matchN (rowL lo hi lo2 hi2 more) (a :: b) ≠ (rowL lo hi lo2 hi2 more).length := by
  rw [rowL, matchN, if_neg (by rw [hasI_one _ _ _ (by omega)]; exact h)]
  simp
theorem row_second {lo hi lo2 hi2 : Int} {more : Nat} {a b : Int} {c : List Int} (ha : 0 ≤ a ∧ a ≤ 255) (hb : 0 ≤ b ∧ b ≤ 255) (h : ¬ ((lo ≤ a ∧ a ≤ hi) ∧ lo2 ≤ b ∧ b ≤ hi2)) : matchN (rowL lo hi lo2 hi2 more) (a :: b :: c) ≠ (rowL lo hi lo2 hi2 more).length := by
  rw [rowL, matchN]
  split
  · rename_i h1
    rw [hasI_one _ _ _ (by omega)] at h1
    rw [matchN, if_neg (by rw [hasI_one _ _ _ (by omega)]; exact fun h2 => h ⟨h1, h2⟩)]
    simp
  · simp
theorem row_yes {lo hi lo2 hi2 : Int} {a b : Int} {c : List Int} {more : Nat} (hm : c.length = more) (h : (lo ≤ a ∧ a ≤ hi) ∧ lo2 ≤ b ∧ b ≤ hi2) (ha : 0 ≤ a ∧ a ≤ 255) (hb : 0 ≤ b ∧ b ≤ 255) (hc : ∀ x ∈ c, 128 ≤ x ∧ x ≤ 191) : matchN (rowL lo hi lo2 hi2 more) (a :: b :: c) = (rowL lo hi lo2 hi2 more).length := by
  subst hm
  rw [rowL, matchN, if_pos (by rw [hasI_one _ _ _ (by omega)]; exact h.1), matchN, if_pos (by rw [hasI_one _ _ _ (by omega)]; exact h.2)]
  have : ∀ c : List Int, (∀ x ∈ c, 128 ≤ x ∧ x ≤ 191) → matchN (List.replicate c.length [(128, 191)]) c = c.length := by
    intro c
    induction c with
    | nil => intro _; rfl
    | cons x c ih =>
      intro h
      have hx := h x (by simp)
      rw [List.length_cons, List.replicate_succ, matchN, if_pos (by rw [hasI_one _ _ _ (by omega)]; exact hx), ih fun y hy => h y (by simp [hy])]
  rw [this c hc]
  simp
theorem scan1 (a : Int) (b : List Int) (m : Nat) (h : 0 ≤ a ∧ a ≤ 127) : scanR tableL (a :: b) m = (a, 1, true) := by
  have : matchN [[(0, 127)]] (a :: b) = [[((0 : Int), (127 : Int))]].length := by rw [matchN, if_pos (by rw [hasI_one _ _ _ (by omega)]; exact h)]; rfl
  rw [tableL, scan_yes this]
  rfl
theorem skip0 {a : Int} {b : List Int} {rs : List (List (List (Int × Int)))} {m : Nat} (h : 128 ≤ a ∧ a ≤ 255) : scanR ([[(0, 127)]] :: rs) (a :: b) m = scanR rs (a :: b) m := by
  have : matchN [[(0, 127)]] (a :: b) = 0 := by rw [matchN, if_neg (by rw [hasI_one _ _ _ (by omega)]; omega)]
  rw [scan_no (by rw [this]; simp), this]
  simp
theorem scan2 (a b : Int) (m : Nat) (h : 194 ≤ a ∧ a ≤ 223) (hb : 128 ≤ b ∧ b ≤ 191) : scanR tableL [a, b] m = (a % 32 * 64 + b % 64, 2, true) := by
  rw [tableL, skip0 (by omega), scan_yes (row_yes (c := []) (more := 0) rfl ⟨h, hb⟩ (by omega) (by omega) (by simp))]
  rfl
theorem scan3 (a b c : Int) (m : Nat) (h : a = 224 ∧ 160 ≤ b ∨ 225 ≤ a ∧ a ≤ 236 ∨ a = 237 ∧ b ≤ 159 ∨ 238 ≤ a ∧ a ≤ 239) (hb : 128 ≤ b ∧ b ≤ 191) (hc : 128 ≤ c ∧ c ≤ 191) : scanR tableL [a, b, c] m = ((a % 16 * 64 + b % 64) * 64 + c % 64, 3, true) := by
  have hcc : ∀ x ∈ [c], 128 ≤ x ∧ x ≤ 191 := by simpa using hc
  rw [tableL, skip0 (by omega), scan_no (row_first (by omega) (by omega))]
  rcases h with h | h | h | h
  · rw [scan_yes (row_yes (c := [c]) (more := 1) rfl (by omega) (by omega) (by omega) hcc)]; rfl
  · rw [scan_no (row_second (by omega) (by omega) (by omega)), scan_yes (row_yes (c := [c]) (more := 1) rfl (by omega) (by omega) (by omega) hcc)]; rfl
  · rw [scan_no (row_second (by omega) (by omega) (by omega)), scan_no (row_second (by omega) (by omega) (by omega)), scan_yes (row_yes (c := [c]) (more := 1) rfl (by omega) (by omega) (by omega) hcc)]; rfl
  · rw [scan_no (row_second (by omega) (by omega) (by omega)), scan_no (row_second (by omega) (by omega) (by omega)), scan_no (row_second (by omega) (by omega) (by omega)), scan_yes (row_yes (c := [c]) (more := 1) rfl (by omega) (by omega) (by omega) hcc)]; rfl
theorem scan4 (a b c d : Int) (m : Nat) (h : a = 240 ∧ 144 ≤ b ∨ 241 ≤ a ∧ a ≤ 243 ∨ a = 244 ∧ b ≤ 143) (hb : 128 ≤ b ∧ b ≤ 191) (hc : 128 ≤ c ∧ c ≤ 191) (hd : 128 ≤ d ∧ d ≤ 191) : scanR tableL [a, b, c, d] m = (((a % 8 * 64 + b % 64) * 64 + c % 64) * 64 + d % 64, 4, true) := by
  have hcc : ∀ x ∈ [c, d], 128 ≤ x ∧ x ≤ 191 := by simp; omega
  rw [tableL, skip0 (by omega), scan_no (row_first (by omega) (by omega)), scan_no (row_first (by omega) (by omega)), scan_no (row_first (by omega) (by omega)), scan_no (row_first (by omega) (by omega)), scan_no (row_first (by omega) (by omega))]
  rcases h with h | h | h
  · rw [scan_yes (row_yes (c := [c, d]) (more := 2) rfl (by omega) (by omega) (by omega) hcc)]; rfl
  · rw [scan_no (row_second (by omega) (by omega) (by omega)), scan_yes (row_yes (c := [c, d]) (more := 2) rfl (by omega) (by omega) (by omega) hcc)]; rfl
  · rw [scan_no (row_second (by omega) (by omega) (by omega)), scan_no (row_second (by omega) (by omega) (by omega)), scan_yes (row_yes (c := [c, d]) (more := 2) rfl (by omega) (by omega) (by omega) hcc)]; rfl
theorem scan_enc {x : Int} (h : scalarB x = true) (m : Nat) : scanR tableL (encI x) m = (x, (encI x).length, true) := by
  have hs := scalar_iff.1 h
  rw [encI]
  split
  · exact scan1 x [] m (by omega)
  split
  · rw [scan2 _ _ m (by omega) (by omega)]
    simp only [List.length_cons, List.length_nil, Prod.mk.injEq, and_true]
    omega
  split
  · rw [scan3 _ _ _ m (by omega) (by omega) (by omega)]
    simp only [List.length_cons, List.length_nil, Prod.mk.injEq, and_true]
    omega
  · rw [scan4 _ _ _ _ m (by omega) (by omega) (by omega) (by omega)]
    simp only [List.length_cons, List.length_nil, Prod.mk.injEq, and_true]
    omega
theorem enc_bytes {x : Int} (h : scalarB x = true) : ∀ y ∈ encI x, 0 ≤ y ∧ y ≤ 255 := by
  have hs := scalar_iff.1 h
  rw [encI]
  split
  · simp; omega
  split
  · simp; omega
  split
  · simp; omega
  · simp; omega
theorem enc_size (x : Int) : 1 ≤ (encI x).length ∧ (encI x).length ≤ 4 := by
  rw [encI]
  split
  · simp
  split
  · simp
  split <;> simp
end Go.Proofs.Ytdmjhlofphhldaa
