/-
  What a part's values, sums of sets, and a term's inner values are, number by number.
  The inner values of all windows, and a term's values.
  A term's values of all windows of guards, as they are told.
  The document's answer for layer 4: how many windows there are, a window by its number, all values.
  The document's answer for layer 4: all values of all windows, and whether a term fits.
  The document's values of all windows are the program's.
  Two descriptions joined.
  The document's example of layer 6; descriptions that write what they read are well formed.
  The law DescSizes.
  The document's answer for epsilon rules that lead back.
  The law DescCycles.
  The document's numbers in order, their sums, and their spans.
  All sums of two lists of numbers.
  The document's inner values: sets moved, places together.
  The document's inner values of a term: the walk.
  The plain law of the document's inner values: the sums of all windows.
  The document's Fits, guards and terms.
  The document's Fits and guards are the program's.
-/
import Derived.Test.YticodgjinajkpaaDA7
import Derived.Test.YticodgjinajkpaaDA6
import Derived.Test.YticodgjinajkpaaDA5
set_option linter.unusedSimpArgs false
set_option linter.unusedVariables false
namespace Go.Proofs.Yticodgjinajkpaa
open Abs
theorem zwt {lo hi D q : Int} (hD : 0 < D) (h : lo ≤ hi) : (∃ x, lo ≤ x ∧ x ≤ hi ∧ x / D = q) ↔ lo / D ≤ q ∧ q ≤ hi / D := by
 constructor
 · rintro ⟨x, h1, h2, rfl⟩
   exact ⟨Int.ediv_le_ediv hD h1, Int.ediv_le_ediv hD h2⟩
 · rintro ⟨h1, h2⟩
   rcases Int.lt_or_eq_of_le h1 with h3 | h3
   · refine ⟨q * D, ?_, ?_, Int.mul_ediv_cancel _ (by omega)⟩
     · have := (Int.ediv_lt_iff_lt_mul hD).1 h3; omega
     · exact (Int.le_ediv_iff_mul_le hD).1 h2
   · exact ⟨lo, Int.le_refl _, h, h3⟩
theorem zix {x y M : Int} (hM : 0 < M) (h1 : x ≤ y) (h2 : y - x < M) : y / M = x / M ∨ y / M = x / M + 1 := by
 have a := Int.ediv_le_ediv hM h1
 have c : y / M ≤ (x + M * 1) / M := Int.ediv_le_ediv hM (by omega)
 rw [Int.add_mul_ediv_left _ _ (by omega)] at c
 omega
theorem zcc {w M k : Int} (h : 0 ≤ w ∧ w < M) : (M * k + w) % M = w := by
 rw [Int.add_comm, Int.add_mul_emod_self_left, Int.emod_eq_of_lt h.1 h.2]
theorem zwu {a b M w : Int} (hM : 0 < M) (hab : a ≤ b) (hs : b - a < M - 1) :
   (∃ q, a ≤ q ∧ q ≤ b ∧ q % M = w) ↔ if a % M ≤ b % M then a % M ≤ w ∧ w ≤ b % M else (0 ≤ w ∧ w ≤ b % M) ∨ (a % M ≤ w ∧ w ≤ M - 1) := by
 have ea := Int.mul_ediv_add_emod a M
 have eb := Int.mul_ediv_add_emod b M
 have a1 := Int.emod_nonneg a (by omega : M ≠ 0)
 have a2 := Int.emod_lt_of_pos a hM
 have b1 := Int.emod_nonneg b (by omega : M ≠ 0)
 have b2 := Int.emod_lt_of_pos b hM
 constructor
 · rintro ⟨q, h1, h2, rfl⟩
   have eq := Int.mul_ediv_add_emod q M
   have q1 := Int.emod_nonneg q (by omega : M ≠ 0)
   have q2 := Int.emod_lt_of_pos q hM
   have k1 := zix hM hab (by omega)
   have k2 := zix hM h1 (by omega)
   have e1 : M * (a / M + 1) = M * (a / M) + M := by rw [Int.mul_add, Int.mul_one]
   rcases k1 with k1 | k1 <;> rcases k2 with k2 | k2 <;> rw [k1] at eb <;> rw [k2] at eq <;> (try rw [e1] at eb) <;> (try rw [e1] at eq) <;> split <;> omega
 · intro h
   have k1 := zix hM hab (by omega)
   have e1 : M * (a / M + 1) = M * (a / M) + M := by rw [Int.mul_add, Int.mul_one]
   rcases k1 with k1 | k1
   · rw [k1] at eb
     rw [if_pos (by omega)] at h
     exact ⟨M * (a / M) + w, by omega, by omega, zcc (by omega)⟩
   · rw [k1, e1] at eb
     rw [if_neg (by omega)] at h
     rcases h with h | h
     · exact ⟨M * (a / M + 1) + w, by omega, by omega, zcc (by omega)⟩
     · exact ⟨M * (a / M) + w, by omega, by omega, zcc (by omega)⟩
theorem y1f {a b M w : Int} (hM : 0 < M) (hs : M - 1 ≤ b - a) : (∃ q, a ≤ q ∧ q ≤ b ∧ q % M = w) ↔ 0 ≤ w ∧ w ≤ M - 1 := by
 constructor
 · rintro ⟨q, _, _, rfl⟩
   have q1 := Int.emod_nonneg q (by omega : M ≠ 0)
   have q2 := Int.emod_lt_of_pos q hM
   omega
 · intro h
   have e := Int.mul_ediv_add_emod (w - a) M
   have q1 := Int.emod_nonneg (w - a) (by omega : M ≠ 0)
   have q2 := Int.emod_lt_of_pos (w - a) hM
   refine ⟨a + (w - a) % M, by omega, by omega, ?_⟩
   have : a + (w - a) % M = M * (-((w - a) / M)) + w := by rw [Int.mul_neg]; omega
   rw [this, zcc (by omega)]
theorem zpu {d t : Nat} {s : Span} {w : Int} (hs : s.lo ≤ s.hi) (hn : ¬ (2 ^ t - 1 : Int) ≤ s.hi / 2 ^ d - s.lo / 2 ^ d) : memL (imgS d t s) w ↔ ∃ x, (s.lo ≤ x ∧ x ≤ s.hi) ∧ x / 2 ^ d % 2 ^ t = w := by
 have hD : (0 : Int) < 2 ^ d := Int.pow_pos (by decide)
 have hT : (0 : Int) < 2 ^ t := Int.pow_pos (by decide)
 have hab := Int.ediv_le_ediv hD hs
 have key : (∃ x, (s.lo ≤ x ∧ x ≤ s.hi) ∧ x / 2 ^ d % 2 ^ t = w) ↔ ∃ q, s.lo / 2 ^ d ≤ q ∧ q ≤ s.hi / 2 ^ d ∧ q % 2 ^ t = w := by
   constructor
   · rintro ⟨x, ⟨h1, h2⟩, h3⟩
     exact ⟨x / 2 ^ d, Int.ediv_le_ediv hD h1, Int.ediv_le_ediv hD h2, h3⟩
   · rintro ⟨q, h1, h2, h3⟩
     obtain ⟨x, k1, k2, k3⟩ := (zwt hD hs).2 ⟨h1, h2⟩
     exact ⟨x, ⟨k1, k2⟩, by rw [k3]; exact h3⟩
 rw [key, zwu hT hab (by omega), imgS]
 split
 · simp [z0e, z0v]
 · simp [z0e, z0v]
theorem zpv {d t : Nat} {w : Int} : ∀ (l out : List Span), (∀ s ∈ l, s.lo ≤ s.hi) → (∀ v, memL out v → 0 ≤ v ∧ v ≤ 2 ^ t - 1) → (memL (imgF d t l out) w ↔ memL out w ∨ ∃ x, memL l x ∧ x / 2 ^ d % 2 ^ t = w)
 | [], out, _, _ => by simp [imgF, z0v]
 | s :: l, out, h, ho => by
   have hD : (0 : Int) < 2 ^ d := Int.pow_pos (by decide)
   have hT : (0 : Int) < 2 ^ t := Int.pow_pos (by decide)
   have hs := h s (by simp)
   rw [imgF]
   split
   · rename_i hb
     have hf := y1f (w := w) hT hb
     constructor
     · intro hw
       have hw' : 0 ≤ w ∧ w ≤ 2 ^ t - 1 := by simpa [allS, z0e, z0v] using hw
       obtain ⟨q, h1, h2, h3⟩ := hf.2 hw'
       obtain ⟨x, k1, k2, k3⟩ := (zwt hD hs).2 ⟨h1, h2⟩
       exact .inr ⟨x, z0e.2 (.inl ⟨k1, k2⟩), by rw [k3]; exact h3⟩
     · intro hw
       have : 0 ≤ w ∧ w ≤ 2 ^ t - 1 := by
         rcases hw with hw | ⟨x, _, rfl⟩
         · exact ho w hw
         · have q1 := Int.emod_nonneg (x / 2 ^ d) (by omega : (2 : Int) ^ t ≠ 0)
           have q2 := Int.emod_lt_of_pos (x / 2 ^ d) hT
           omega
       simpa [allS, z0e, z0v] using this
   · rename_i hb
     rw [zpv l _ (fun s hs => h s (by simp [hs])) (fun v hv => ?_), z3k, zpu hs hb]
     · constructor
       · rintro ((h1 | ⟨x, h1, h2⟩) | ⟨x, h1, h2⟩)
         · exact .inl h1
         · exact .inr ⟨x, z0e.2 (.inl h1), h2⟩
         · exact .inr ⟨x, z0e.2 (.inr h1), h2⟩
       · rintro (h1 | ⟨x, h1, h2⟩)
         · exact .inl (.inl h1)
         · rcases z0e.1 h1 with h1 | h1
           · exact .inl (.inr ⟨x, h1, h2⟩)
           · exact .inr ⟨x, h1, h2⟩
     · rcases z3k.1 hv with hv | hv
       · exact ho v hv
       · obtain ⟨x, _, rfl⟩ := (zpu hs hb).1 hv
         have q1 := Int.emod_nonneg (x / 2 ^ d) (by omega : (2 : Int) ^ t ≠ 0)
         have q2 := Int.emod_lt_of_pos (x / 2 ^ d) hT
         omega
theorem mem_map {α : Type} {f : α → Span} {l : List α} {v : Int} : memL (l.map f) v ↔ ∃ a ∈ l, (f a).lo ≤ v ∧ v ≤ (f a).hi := by
 simp only [memL, List.mem_map]
 exact ⟨fun ⟨_, ⟨a, h, rfl⟩, h2⟩ => ⟨a, h, h2⟩, fun ⟨a, h, h2⟩ => ⟨_, ⟨a, h, rfl⟩, h2⟩⟩
theorem zpw {p : Part} (s : List Span) (hb : z2o p = true) : Plain (imgL p s) ∧ ∀ v, memL (imgL p s) v ↔ ∃ x, memL s x ∧ (0 ≤ x ∧ x ≤ 2097151) ∧ valP p x = v := by
 have hbi := z3d.1 hb
 have ht := z69 p.take.toNat (by omega)
 have hT : (0 : Int) < 2 ^ p.take.toNat := Int.pow_pos (by decide)
 obtain ⟨m1, m2, m3⟩ := zpm s
 have hF : ∀ w, memL (imgF p.drop.toNat p.take.toNat (z4b (z0d s) (z0d topS)) []) w ↔ ∃ x, (memL s x ∧ 0 ≤ x ∧ x ≤ 2097151) ∧ x / 2 ^ p.drop.toNat % 2 ^ p.take.toNat = w := fun w => by
   rw [zpv _ _ (fun t ht => (m2 t ht).2.1) (fun v hv => absurd hv (z0v v))]
   simp only [z0v, false_or, m3]
 have hr : ∀ w, memL (imgF p.drop.toNat p.take.toNat (z4b (z0d s) (z0d topS)) []) w → 0 ≤ w ∧ w ≤ 2 ^ p.take.toNat - 1 := fun w hw => by
   obtain ⟨x, _, rfl⟩ := (hF w).1 hw
   have q1 := Int.emod_nonneg (x / 2 ^ p.drop.toNat) (by omega : (2 : Int) ^ p.take.toNat ≠ 0)
   have q2 := Int.emod_lt_of_pos (x / 2 ^ p.drop.toNat) hT
   omega
 unfold imgL
 rw [if_neg (by simp [hb])]
 split
 · rename_i hu
   refine ⟨(z0c _).1, fun v => ?_⟩
   rw [(z0c _).2 v, hF]
   have e : ∀ x, valP p x = x / 2 ^ p.drop.toNat % 2 ^ p.take.toNat := fun x => by simp [valP, hu]
   constructor
   · rintro ⟨⟨x, ⟨h1, h2⟩, h3⟩, _⟩
     exact ⟨x, h1, h2, by rw [e]; exact h3⟩
   · rintro ⟨x, h1, h2, h3⟩
     rw [e] at h3
     have := hr v ((hF v).2 ⟨x, ⟨h1, h2⟩, h3⟩)
     exact ⟨⟨x, ⟨h1, h2⟩, h3⟩, by omega⟩
 · rename_i hu
   refine ⟨(z0c _).1, fun v => ?_⟩
   rw [(z0c _).2 v, mem_map]
   constructor
   · rintro ⟨⟨n, hn, h1, h2⟩, _⟩
     simp only [oneS] at h1 h2
     have hn' := z6q.1 hn
     rw [(z0c _).2, (z0c _).2] at hn'
     obtain ⟨x, ⟨k1, k2⟩, k3⟩ := (hF n).1 hn'.1.1
     exact ⟨x, k1, k2, by rw [valP, k3]; omega⟩
   · rintro ⟨x, h1, h2, h3⟩
     have hv := z3h hb h2
     have hm := (hF (x / 2 ^ p.drop.toNat % 2 ^ p.take.toNat)).2 ⟨x, ⟨h1, h2⟩, rfl⟩
     have := hr _ hm
     refine ⟨⟨x / 2 ^ p.drop.toNat % 2 ^ p.take.toNat, z6q.2 ?_, ?_⟩, by omega⟩
     · rw [(z0c _).2, (z0c _).2]
       exact ⟨⟨hm, by omega⟩, by omega⟩
     · rw [valP] at h3
       simp only [oneS]
       omega
def Full (l : List Span) : Prop := ∀ s ∈ l, s.lo ≤ s.hi
theorem zwv {a b : List Span} (ha : Full a) (hb : Full b) : Plain (zlh a b) ∧ ∀ v, memL (zlh a b) v ↔ (∃ x y, memL a x ∧ memL b y ∧ x + y = v) ∧ -1073741824 ≤ v ∧ v ≤ 1073741824 := by
 refine ⟨(z0c _).1, fun v => ?_⟩
 rw [zlh, (z0c _).2 v, zne, zpn]
 refine and_congr_left fun _ => ?_
 constructor
 · rintro ⟨s, hs, h⟩
   obtain ⟨r, hr, h1, h2⟩ := mem_map.1 h
   simp only [sumS] at h1 h2
   have k1 := ha s hs
   have k2 := hb r hr
   refine ⟨max s.lo (v - r.hi), v - max s.lo (v - r.hi), ⟨s, hs, by omega, by omega⟩, ⟨r, hr, by omega, by omega⟩, by omega⟩
 · rintro ⟨x, y, ⟨s, hs, h1, h2⟩, ⟨r, hr, h3, h4⟩, rfl⟩
   exact ⟨s, hs, mem_map.2 ⟨r, hr, by simp only [sumS]; omega, by simp only [sumS]; omega⟩⟩
theorem zww {out : List Span} {n : Int} (h : Full out) : Full (addS out ⟨n, n⟩) ∧ ∀ v, memL (addS out ⟨n, n⟩) v ↔ memL out v ∨ v = n := by
 rcases z3g out with rfl | ⟨m, y, rfl⟩
 · refine ⟨fun s hs => ?_, fun v => ?_⟩
   · simp only [z57, List.mem_singleton] at hs; subst hs; simp
   · rw [z57, z0e]; simp only [z0v, or_false, false_or]; omega
 · have hy := h y (by simp)
   rw [z6c]
   simp only
   split
   · rename_i he
     refine ⟨fun s hs => ?_, fun v => ?_⟩
     · rcases List.mem_append.1 hs with hs | hs
       · exact h s (by simp [hs])
       · simp only [List.mem_singleton] at hs; subst hs; simp only; omega
     · rw [z3k, z3k, z0e, z0e]
       simp only [z0v, or_false]
       constructor
       · rintro (h1 | h1)
         · exact .inl (.inl h1)
         · by_cases hv : v = n
           · exact .inr hv
           · exact .inl (.inr (by omega))
       · rintro ((h1 | h1) | h1)
         · exact .inl h1
         · exact .inr (by omega)
         · exact .inr (by omega)
   · refine ⟨fun s hs => ?_, fun v => ?_⟩
     · rcases List.mem_append.1 hs with hs | hs
       · exact h s hs
       · simp only [List.mem_singleton] at hs; subst hs; simp
     · rw [z3k, z0e]
       simp only [z0v, or_false]
       have : (n ≤ v ∧ v ≤ n) ↔ v = n := by omega
       rw [this]
theorem zpx (l : List Part) {v : Int} : ∀ (m : List Int) (out : List Span), Full out → (memL (m.foldl (togF l) out) v ↔ memL out v ∨ ∃ x ∈ m, totV l x = v)
 | [], out, _ => by simp
 | x :: m, out, h => by
   obtain ⟨h1, h2⟩ := zww (n := totV l x) h
   rw [List.foldl_cons, togF, zpx l m _ h1, h2]
   simp only [List.mem_cons, exists_eq_or_imp]
   constructor
   · rintro ((h | h) | h)
     · exact .inl h
     · exact .inr (.inl h.symm)
     · exact .inr (.inr h)
   · rintro (h | h | h)
     · exact .inl (.inl h)
     · exact .inl (.inr h.symm)
     · exact .inr h
theorem y1g {l : List Part} {s : List Span} (hl : l.length ≤ 4) (hb : ∀ p ∈ l, z2o p = true) (hs : Syms s) : Plain (togL l s) ∧ ∀ v, memL (togL l s) v ↔ ∃ x, memL s x ∧ totV l x = v := by
 unfold togL
 split
 · rename_i h1
   obtain ⟨p, rfl⟩ := List.length_eq_one_iff.1 h1
   obtain ⟨i1, i2⟩ := zpw s (hb p (by simp))
   refine ⟨i1, fun v => ?_⟩
   have e : nth [p] 0 = p := rfl
   rw [e, i2]
   have e2 : ∀ x, totV [p] x = valP p x := fun x => by simp [totV]
   constructor
   · rintro ⟨x, h1, _, h3⟩; exact ⟨x, h1, by rw [e2]; exact h3⟩
   · rintro ⟨x, h1, h3⟩
     have := hs.mem h1
     exact ⟨x, h1, by omega, by rw [← e2]; exact h3⟩
 · refine ⟨(z0c _).1, fun v => ?_⟩
   rw [(z0c _).2 v, zpx l _ _ (fun s hs => by cases hs), zlk hs]
   simp only [z0v, false_or, z6q]
   constructor
   · rintro ⟨h, _⟩; exact h
   · rintro ⟨x, h1, rfl⟩
     have := hs.mem h1
     have := z7i (x := x) (by omega) hb
     exact ⟨⟨x, h1, rfl⟩, by omega⟩
def Win (sets : List (List Span)) (w : List Int) : Prop := w.length = sets.length ∧ ∀ i, i < sets.length → memL (nth sets i) (nth w i)
def zb1 (l : List Part) (pl : List Int) (w : List Int) : Int := (pl.map fun a => totV (atL l a) (nth w a.toNat)).sum
def totW (w : List Int) (l : List Part) : Int := (l.map fun p => valP p (nth w p.at_.toNat)).sum
theorem zb2 {w : List Int} {i j : Nat} {x : Int} (h : i < w.length) : nth (w.set i x) j = if j = i then x else nth w j := by
 simp only [nth, List.getD_eq_getElem?_getD, List.getElem?_set]
 split
 · subst_vars; simp [h]
 · rename_i hne; rw [if_neg (fun e => hne e.symm)]
theorem z6t {α : Type} {f g : α → Int} : ∀ {l : List α}, (∀ a ∈ l, f a = g a) → (l.map f).sum = (l.map g).sum
 | [], _ => rfl
 | a :: l, h => by simp [h a (by simp), z6t (l := l) fun b hb => h b (by simp [hb])]
theorem zek {α : Type} {f g : α → Int} : ∀ {l : List α}, (l.map fun a => f a + g a).sum = (l.map f).sum + (l.map g).sum
 | [] => rfl
 | a :: l => by
   have := zek (f := f) (g := g) (l := l)
   simp only [List.map_cons, List.sum_cons, this]
   omega
theorem z7k {α : Type} {f : α → Int} : ∀ {l : List α}, (∀ a ∈ l, f a = 0) → (l.map f).sum = 0
 | [], _ => rfl
 | a :: l, h => by simp [h a (by simp), z7k (l := l) fun b hb => h b (by simp [hb])]
theorem zel {c : Int} {g : Int → Int} : ∀ {l : List Int}, l.Nodup → c ∈ l → (l.map fun a => if c = a then g a else 0).sum = g c
 | [], _, h => by cases h
 | a :: l, hn, h => by
   obtain ⟨h1, h2⟩ := List.nodup_cons.1 hn
   by_cases e : c = a
   · subst e
     have : (l.map fun a => if c = a then g a else 0).sum = 0 := z7k fun b hb => if_neg fun (e2 : c = b) => h1 (by rw [e2]; exact hb)
     simp [this]
   · have hm : c ∈ l := by simpa [e] using h
     simp [e, zel h2 hm]
theorem z88 (w : List Int) : ∀ (l : List Part) (pl : List Int), pl.Nodup → (∀ p ∈ l, p.at_ ∈ pl) → zb1 l pl w = totW w l
 | [], pl, _, _ => z7k fun a _ => rfl
 | p :: l, pl, hn, h => by
   have ih := z88 w l pl hn fun q hq => h q (by simp [hq])
   have e : ∀ a ∈ pl, totV (atL (p :: l) a) (nth w a.toNat) = (if p.at_ = a then valP p (nth w a.toNat) else 0) + totV (atL l a) (nth w a.toNat) := fun a _ => by
     simp only [atL, List.filter_cons, decide_eq_true_eq]
     split
     · simp [totV]
     · simp [totV]
   rw [zb1, z6t e, zek, zel (g := fun a => valP p (nth w a.toNat)) hn (h p (by simp))]
   rw [zb1] at ih
   rw [ih]
   simp [totW]
theorem zem : ∀ (l : List Part) (pl : List Int), pl.Nodup → (l.foldl z1o pl).Nodup ∧ (∀ a, a ∈ l.foldl z1o pl ↔ a ∈ pl ∨ ∃ p ∈ l, p.at_ = a) ∧ (l.foldl z1o pl).length ≤ pl.length + l.length
 | [], pl, h => ⟨h, fun a => by simp, by simp⟩
 | p :: l, pl, h => by
   have h1 : (z1o pl p).Nodup ∧ (∀ a, a ∈ z1o pl p ↔ a ∈ pl ∨ p.at_ = a) ∧ (z1o pl p).length ≤ pl.length + 1 := by
     unfold z1o
     split
     · rename_i hm
       exact ⟨h, fun a => ⟨.inl, fun hh => hh.elim id fun e => e ▸ hm⟩, by omega⟩
     · rename_i hm
       refine ⟨List.nodup_append.2 ⟨h, by simp, fun a ha b hb => ?_⟩, fun a => by simp [eq_comm], by simp⟩
       simp only [List.mem_singleton] at hb
       subst hb
       exact fun e => hm (e ▸ ha)
   obtain ⟨k1, k2, k3⟩ := zem l (z1o pl p) h1.1
   refine ⟨k1, fun a => ?_, by have := h1.2.2; simp only [List.foldl_cons, List.length_cons]; omega⟩
   rw [List.foldl_cons, k2, h1.2.1]
   simp only [List.mem_cons, exists_eq_or_imp, or_assoc]
theorem zgm {l : List Span} (h : Plain l) : Full l := h.1
theorem zwx {sets : List (List Span)} {w : List Int} {a : Nat} {x : Int} (hw : Win sets w) (ha : a < sets.length) (hx : memL (nth sets a) x) : Win sets (w.set a x) := by
 refine ⟨by simp [hw.1], fun i hi => ?_⟩
 rw [zb2 (by rw [hw.1]; exact ha)]
 split
 · subst_vars; exact hx
 · exact hw.2 i hi
theorem zlm {l : List Part} {sets : List (List Span)} (hS : z2c l sets) (hl : l.length ≤ 4) (hne : ∃ w, Win sets w) : ∀ (pl : List Int) (out : List Span), pl.Nodup → (∀ a ∈ pl, 0 ≤ a ∧ a < sets.length) → Full out → pl.length ≤ 4 →
   (∀ v, memL out v → -1114111 ≤ v ∧ v ≤ 1114111 + (4 - (pl.length : Int)) * 264241152) → Full (pl.foldl (z0s l sets) out) ∧ ∀ v, memL (pl.foldl (z0s l sets) out) v ↔ ∃ o w, memL out o ∧ Win sets w ∧ o + zb1 l pl w = v
 | [], out, _, _, hf, _, _ => ⟨hf, fun v => by
   obtain ⟨w, hw⟩ := hne
   simp only [List.foldl_nil, zb1, List.map_nil, List.sum_nil, Int.add_zero]
   exact ⟨fun h => ⟨v, w, h, hw, rfl⟩, fun ⟨o, _, h, _, e⟩ => e ▸ h⟩⟩
 | a :: pl, out, hn, hp, hf, hlen, hb => by
   obtain ⟨n1, n2⟩ := List.nodup_cons.1 hn
   have ha := hp a (by simp)
   have hm : nth sets a.toNat ∈ sets := z0k (by omega)
   have hsy := hS.syms _ hm
   have hbits : ∀ p ∈ atL l a, z2o p = true := fun p hp => by
     have := hS.parts p ((List.mem_filter.1 hp).1)
     simp only [z2t, Bool.and_eq_true] at this
     exact this.2
   have hla : (atL l a).length ≤ 4 := Nat.le_trans (List.length_filter_le _ _) hl
   obtain ⟨t1, t2⟩ := y1g hla hbits hsy
   obtain ⟨p1, p2⟩ := zwv hf (zgm t1)
   have htot : ∀ x, memL (nth sets a.toNat) x → 0 ≤ totV (atL l a) x ∧ totV (atL l a) x ≤ 264241152 := fun x hx => by
     have := hsy.mem hx
     have := z7i (x := x) (by omega) hbits
     omega
   simp only [List.length_cons] at hlen hb
   have hv : ∀ v, memL (z0s l sets out a) v ↔ ∃ o x, memL out o ∧ memL (nth sets a.toNat) x ∧ o + totV (atL l a) x = v := fun v => by
     rw [z0s, p2]
     constructor
     · rintro ⟨⟨o, y, h1, h2, h3⟩, _⟩
       obtain ⟨x, k1, k2⟩ := (t2 y).1 h2
       exact ⟨o, x, h1, k1, by rw [k2]; exact h3⟩
     · rintro ⟨o, x, h1, h2, rfl⟩
       have := hb o h1
       have := htot x h2
       push_cast at *
       exact ⟨⟨o, _, h1, (t2 _).2 ⟨x, h2, rfl⟩, rfl⟩, by omega, by omega⟩
   obtain ⟨i1, i2⟩ := zlm hS hl hne pl (z0s l sets out a) n2 (fun b hb => hp b (by simp [hb])) (zgm p1) (by omega) (fun v h => by
     obtain ⟨o, x, h1, h2, rfl⟩ := (hv v).1 h
     have := hb o h1
     have := htot x h2
     push_cast at *
     omega)
   refine ⟨i1, fun v => ?_⟩
   rw [List.foldl_cons, i2]
   constructor
   · rintro ⟨u, w, h1, hw, rfl⟩
     obtain ⟨o, x, k1, k2, rfl⟩ := (hv u).1 h1
     refine ⟨o, w.set a.toNat x, k1, zwx hw (by omega) k2, ?_⟩
     have e1 : zb1 l pl (w.set a.toNat x) = zb1 l pl w := z6t fun b hb => by
       have := hp b (by simp [hb])
       rw [zb2 (by rw [hw.1]; omega), if_neg]
       intro e
       exact n1 ((show b = a by omega) ▸ hb)
     have e2 : zb1 l (a :: pl) (w.set a.toNat x) = totV (atL l a) x + zb1 l pl (w.set a.toNat x) := by
       simp only [zb1, List.map_cons, List.sum_cons]
       rw [zb2 (by rw [hw.1]; omega), if_pos rfl]
     rw [e2, e1]
     omega
   · rintro ⟨o, w, h1, hw, rfl⟩
     have hx := hw.2 a.toNat (by omega)
     refine ⟨o + totV (atL l a) (nth w a.toNat), w, (hv _).2 ⟨o, _, h1, hx, rfl⟩, hw, ?_⟩
     simp only [zb1, List.map_cons, List.sum_cons]
     omega
theorem y1h (x : Int) : Full [⟨x, x⟩] := fun s hs => by simp only [List.mem_singleton] at hs; subst hs; simp
theorem znp {x v : Int} : memL [⟨x, x⟩] v ↔ v = x := by rw [z0e]; simp only [z0v, or_false]; omega
theorem zwy {t : Term} {sets : List (List Span)} (hS : z2c t.parts sets) (hl : t.parts.length ≤ 4) (hs : z1n t.sum = true) (hne : ∃ w, Win sets w) : Full (z0p t sets) ∧ ∀ v, memL (z0p t sets) v ↔ ∃ w, Win sets w ∧ t.sum + totW w t.parts = v := by
 obtain ⟨k1, k2, k3⟩ := zem t.parts [] (by simp)
 have hsm := z44 hs
 simp only [List.length_nil] at k3
 have hat : ∀ a, a ∈ z1r t.parts → 0 ≤ a ∧ a < sets.length := fun a ha => by
   obtain h | ⟨p, hp, rfl⟩ := (k2 a).1 ha
   · cases h
   · exact z08 (hS.parts p hp)
 obtain ⟨h1, h2⟩ := zlm hS hl hne (z1r t.parts) [⟨t.sum, t.sum⟩] k1 hat (y1h _) (by rw [z1r]; omega) (fun v hv => by
   rw [znp] at hv
   have : (z1r t.parts).length ≤ 4 := by rw [z1r]; omega
   omega)
 refine ⟨h1, fun v => ?_⟩
 rw [z0p, h2]
 constructor
 · rintro ⟨o, w, e, hw, rfl⟩
   rw [znp] at e
   exact ⟨w, hw, by rw [e, z1r, z88 w _ _ k1 fun p hp => (k2 _).2 (.inr ⟨p, hp, rfl⟩)]⟩
 · rintro ⟨w, hw, rfl⟩
   exact ⟨_, w, znp.2 rfl, hw, by rw [z1r, z88 w _ _ k1 fun p hp => (k2 _).2 (.inr ⟨p, hp, rfl⟩)]⟩
theorem znq {w : List Int} {n : Int} : ∀ {l : List Part}, (∀ p ∈ l, z2t p n = true) → (∀ p ∈ l, 0 ≤ nth w p.at_.toNat ∧ nth w p.at_.toNat ≤ 1114111) → totP w l = totW w l ∧ 0 ≤ totW w l ∧ totW w l ≤ l.length * 66060288
 | [], _, _ => by simp [totP, totW]
 | p :: l, h, hx => by
   obtain ⟨i1, i2, i3⟩ := znq (l := l) (fun q hq => h q (by simp [hq])) (fun q hq => hx q (by simp [hq]))
   have hr := h p (by simp)
   simp only [z2t, Bool.and_eq_true] at hr
   have hxp := hx p (by simp)
   have hv := z3h hr.2 (x := nth w p.at_.toNat) (by omega)
   have e1 : val1 p (nth w p.at_.toNat) = valP p (nth w p.at_.toNat) := (zao hr.2 (by omega)).2
   have e2 : totW w (p :: l) = valP p (nth w p.at_.toNat) + totW w l := by simp [totW]
   rw [totP, e1, e2, i1]
   refine ⟨rfl, by omega, ?_⟩
   push_cast [List.length_cons]
   omega
theorem z6e {t : Term} {sets : List (List Span)} {w : List Int} (hS : z2c t.parts sets) (hn : z1p t = true) (hw : Win sets w) :
   z6x t w = if 0 ≤ t.sum + totW w t.parts ∧ t.sum + totW w t.parts ≤ 1114111 then some (t.base + valP t.outer (t.sum + totW w t.parts)) else none := by
 simp only [z1p, Bool.and_eq_true, decide_eq_true_eq] at hn
 obtain ⟨⟨⟨hb, hs⟩, ho⟩, _, hl⟩ := hn
 have hsm := z44 hs
 have hbm := z44 hb
 have hsym : ∀ i, i < sets.length → 0 ≤ nth w i ∧ nth w i ≤ 1114111 := fun i hi => (hS.syms _ (z0k hi)).mem (hw.2 i hi)
 obtain ⟨e1, b1, b2⟩ := znq (w := w) hS.parts (fun p hp => by
   have := z08 (hS.parts p hp)
   exact hsym _ (by omega))
 have hall : w.all symB = true := by
   rw [List.all_eq_true]
   intro x hx
   obtain ⟨i, hi, rfl⟩ := List.getElem_of_mem hx
   have := hsym i (by rw [← hw.1]; exact hi)
   have e : nth w i = w[i] := by simp [nth, hi]
   rw [e] at this
   simp [symB]; omega
 have hright : zap w t.parts = true := by
   rw [zap, List.all_eq_true]
   intro p hp
   rw [hw.1]
   exact hS.parts p hp
 have hsum := zvi w t.parts t.sum (y5w (by omega))
 rw [if_pos hright, e1, y5w (by omega)] at hsum
 unfold z6x
 rw [if_pos hall, hsum]
 simp only
 by_cases h : 0 ≤ t.sum + totW w t.parts ∧ t.sum + totW w t.parts ≤ 1114111
 · have hvb : valB t.outer (t.sum + totW w t.parts) = true := (zao ho (by omega)).1
   have hv2 := z3h ho (x := t.sum + totW w t.parts) (by omega)
   rw [if_pos h, if_pos (by simp [hvb]; omega), show IntKind.i64.wrap (t.base + valP t.outer (t.sum + totW w t.parts)) = t.base + valP t.outer (t.sum + totW w t.parts) from IntWalk.i64_in _ (by omega)]
 · rw [if_neg h, if_neg]
   simp only [valB, ho, Bool.true_and, Bool.and_eq_true, decide_eq_true_eq]
   omega
theorem zgn : ∀ {m : List Span}, Plain m → m ≠ [] → ∃ a b, zlg m = some a ∧ znc m = some b ∧ memL m a ∧ memL m b ∧ ∀ v, memL m v → a ≤ v ∧ v ≤ b
 | [], _, h => absurd rfl h
 | [s], h, _ => by
   have := h.head
   refine ⟨s.lo, s.hi, rfl, rfl, z0e.2 (.inl (by omega)), z0e.2 (.inl (by omega)), fun v hv => ?_⟩
   rw [z0e] at hv
   simpa [z0v] using hv
 | s :: r :: m, h, _ => by
   have hs := h.head
   obtain ⟨a, b, e1, e2, h1, h2, h3⟩ := zgn h.tail (by simp)
   have hb := h.after h2
   refine ⟨s.lo, b, rfl, ?_, z0e.2 (.inl (by omega)), z0e.2 (.inr h2), fun v hv => ?_⟩
   · simpa [znc] using e2
   · rcases z0e.1 hv with h4 | h4
     · omega
     · have := h.after h4
       have := h3 v h4
       omega
theorem z90 {l : List Span} {v : Int} (h : memL l v) : l ≠ [] := by rintro rfl; exact z0v v h
theorem zsj {l : List Span} {u : Int} (hu : memL l u) (hb : ∀ v, memL l v → -1073741824 ≤ v ∧ v ≤ 1073741824) : z1s l = true ↔ ∀ v, memL l v → 0 ≤ v ∧ v ≤ 1114111 := by
 obtain ⟨p1, p2⟩ := z0c l
 have hm : ∀ v, memL (z0d l) v ↔ memL l v := fun v => by rw [p2]; exact ⟨fun h => h.1, fun h => ⟨h, hb v h⟩⟩
 obtain ⟨a, b, e1, e2, h1, h2, h3⟩ := zgn p1 (z90 ((hm u).2 hu))
 have hl : 0 < (l.length : Int) := by
   have := List.length_pos_iff.2 (z90 hu)
   omega
 simp only [z1s, e1, e2, Option.getD_some, Bool.and_eq_true, decide_eq_true_eq]
 constructor
 · rintro ⟨_, k1, k2⟩ v hv
   have := h3 v ((hm v).2 hv)
   omega
 · intro h
   exact ⟨hl, (h a ((hm a).1 h1)).1, (h b ((hm b).1 h2)).2⟩
theorem zpy {gs : List (List Span)} : zay gs gs.length = true ↔ ∃ w, Win (gs.map symI) w := by
 rw [zay, List.take_length, List.all_eq_true]
 constructor
 · intro h
   refine ⟨(gs.map symI).map fun s => (nth s 0).lo, by simp, fun i hi => ?_⟩
   have hi' : i < gs.length := by simpa using hi
   have h1 := h _ (z0k hi')
   have e1 : nth (gs.map symI) i = symI (nth gs i) := by simp [nth, hi']
   have e2 : nth ((gs.map symI).map fun s => (nth s 0).lo) i = (nth (symI (nth gs i)) 0).lo := by simp [nth, hi']
   rw [e1, e2]
   simp only [decide_eq_true_eq] at h1
   have hm := z0k (l := symI (nth gs i)) (i := 0) (by omega)
   have hs := (zle (nth gs i)).2 _ hm
   exact ⟨_, hm, by omega, by omega⟩
 · rintro ⟨w, hw⟩ g hg
   obtain ⟨i, hi, rfl⟩ := List.getElem_of_mem hg
   have h1 := hw.2 i (by simpa using hi)
   have e1 : nth (gs.map symI) i = symI gs[i] := by simp [nth, hi]
   rw [e1] at h1
   have := List.length_pos_iff.2 (z90 h1)
   simp only [decide_eq_true_eq]
   omega
theorem zsk {t : Term} {gs : List (List Span)} (h4 : gs.length ≤ 4) (hn : z1p t = true) (hp : prtB t gs.length = true) :
   ((z3y t gs).2 = true ↔ ∀ w, Win (gs.map symI) w → (z6x t w).isSome = true) ∧ ((z3y t gs).2 = false → (z3y t gs).1 = []) ∧
   ((z3y t gs).2 = true → Plain (z3y t gs).1 ∧ ∀ v, memL (z3y t gs).1 v ↔ ∃ w, Win (gs.map symI) w ∧ z6x t w = some v) := by
 have hS := z84 hp h4
 have hnum := hn
 simp only [z1p, Bool.and_eq_true, decide_eq_true_eq] at hnum
 obtain ⟨⟨⟨hb, hs⟩, ho⟩, _, hl⟩ := hnum
 have hsm := z44 hs
 have hbm := z44 hb
 have hI : z3x t gs = if zay gs gs.length = false then ([], true) else (z0p t (gs.map symI), z1s (z0p t (gs.map symI))) := by
   rw [z3x, if_neg (by simp [hn]; omega), if_neg (by simp [hp])]
 have hsome := @zpy gs
 cases hB : zay gs gs.length
 · rw [hB] at hI hsome
   have hno : ∀ w, ¬ Win (gs.map symI) w := fun w hw => by have := hsome.2 ⟨w, hw⟩; cases this
   have e : z3y t gs = ([], true) := by rw [z3y, hI]; simp
   rw [e]
   refine ⟨⟨fun _ w hw => absurd hw (hno w), fun _ => rfl⟩, fun h => (by cases h), fun _ => ⟨⟨by simp, by simp⟩, fun v => ⟨fun h => absurd h (z0v v), fun ⟨w, hw, _⟩ => absurd hw (hno w)⟩⟩⟩
 · rw [hB] at hI hsome
   obtain ⟨w0, hw0⟩ := hsome.1 rfl
   obtain ⟨v1, v2⟩ := zwy hS hl hs ⟨w0, hw0⟩
   have hbd : ∀ w, Win (gs.map symI) w → 0 ≤ totW w t.parts ∧ totW w t.parts ≤ 264241152 := fun w hw => by
     obtain ⟨_, b1, b2⟩ := znq (w := w) hS.parts (fun p hp => by
       have := z08 (hS.parts p hp)
       exact (hS.syms _ (z0k (by omega))).mem (hw.2 _ (by omega)))
     omega
   have hin := zsj ((v2 _).2 ⟨w0, hw0, rfl⟩) (fun v hv => by
     obtain ⟨w, hw, rfl⟩ := (v2 v).1 hv
     have := hbd w hw
     omega)
   have hin2 : z1s (z0p t (gs.map symI)) = true ↔ ∀ w, Win (gs.map symI) w → (z6x t w).isSome = true := by
     rw [hin]
     constructor
     · intro h w hw
       rw [z6e hS hn hw, if_pos (h _ ((v2 _).2 ⟨w, hw, rfl⟩))]
       rfl
     · intro h v hv
       obtain ⟨w, hw, rfl⟩ := (v2 v).1 hv
       have := h w hw
       rw [z6e hS hn hw] at this
       split at this
       · assumption
       · cases this
   have hne : (z0p t (gs.map symI)).length ≠ 0 := fun h => z90 ((v2 _).2 ⟨w0, hw0, rfl⟩) (List.eq_nil_of_length_eq_zero h)
   cases hi : z1s (z0p t (gs.map symI))
   · have e : z3y t gs = ([], false) := by rw [z3y, hI]; simp [hi]
     rw [e]
     rw [hi] at hin2
     exact ⟨hin2, fun _ => rfl, fun h => by cases h⟩
   · have e : z3y t gs = (z3i (imgL t.outer (z0p t (gs.map symI))) t.base, true) := by
       rw [z3y, hI]
       simp [hi, hne]
     rw [e]
     rw [hi] at hin2
     refine ⟨hin2, fun h => (by cases h), fun _ => ⟨?_, fun v => ?_⟩⟩
     · unfold z3i
       split
       · exact ⟨by simp, by simp⟩
       · exact (z0c _).1
     · obtain ⟨_, i2⟩ := zpw (z0p t (gs.map symI)) ho
       rw [ziq (by omega), i2]
       constructor
       · rintro ⟨⟨⟨x, h1, h2, h3⟩, _⟩, _⟩
         obtain ⟨w, hw, rfl⟩ := (v2 x).1 h1
         have hv := hin.1 hi _ h1
         exact ⟨w, hw, by rw [z6e hS hn hw, if_pos hv, h3]; congr 1; omega⟩
       · rintro ⟨w, hw, h⟩
         have hm := (v2 _).2 ⟨w, hw, rfl⟩
         have hv := hin.1 hi _ hm
         rw [z6e hS hn hw, if_pos hv] at h
         have hvs := z3h ho (x := t.sum + totW w t.parts) (by omega)
         simp only [Option.some.injEq] at h
         exact ⟨⟨⟨_, hm, by omega, by omega⟩, by omega⟩, by omega⟩
def zen (s x : Int) : Bool := decide ((s = 1 ∧ 0 ≤ x ∧ x < 256) ∨ (s = 2 ∧ 0 ≤ x ∧ x < 1114112 ∧ (x < 55296 ∨ 57344 ≤ x)))
def fitW (t : Term) (o : Int) (w : List Int) : Bool := match z6x t w with
 | some v => decide (0 ≤ v ∧ v ≤ 1114111) && zen o v
 | none => false
theorem win_cons {g : List Span} {gs : List (List Span)} {w : List Int} : Win (g :: gs) w ↔ ∃ x r, w = x :: r ∧ memL g x ∧ Win gs r := by
 constructor
 · rintro ⟨h1, h2⟩
   cases w with
   | nil => simp at h1
   | cons x r =>
     refine ⟨x, r, rfl, ?_, by simpa using h1, fun i hi => ?_⟩
     · exact h2 0 (by simp)
     · exact h2 (i + 1) (by simp; omega)
 · rintro ⟨x, r, rfl, h1, h2⟩
   refine ⟨by simp [h2.1], fun i hi => ?_⟩
   cases i with
   | zero => exact h1
   | succ i => exact h2.2 i (by simp at hi; omega)
theorem y6g {w : List Int} : Win [] w ↔ w = [] := by
 constructor
 · rintro ⟨h, _⟩; exact List.eq_nil_of_length_eq_zero h
 · rintro rfl; exact ⟨rfl, fun i hi => by simp at hi⟩
theorem zwz {l : List Span} {v : Int} (h : -1073741824 ≤ v ∧ v ≤ 1073741824) : hasI l v = true ↔ memL l v := by
 rw [z56]; exact ⟨fun h => h.2.2, fun hm => ⟨h.1, h.2, hm⟩⟩
theorem z91 {o v : Int} : memL (domL o) v ↔ zen o v = true := by
 unfold domL
 simp only [zen, decide_eq_true_eq]
 split
 · rw [z0e]; simp only [z0v, or_false]; omega
 · split
   · rw [z0e, z0e]; simp only [z0v, or_false]; omega
   · simp only [z0v, false_iff]; omega
theorem zcd {o v : Int} (h : zen o v = true) : 0 ≤ v ∧ v ≤ 1114111 := by
 simp only [zen, decide_eq_true_eq] at h; omega
theorem z6f {l d : List Span} (hl : ∀ v, memL l v → -1073741824 ≤ v ∧ v ≤ 1073741824) (hp : Full l) : z41 l d = [] ↔ ∀ v, memL l v → memL d v := by
 obtain ⟨m1, m2⟩ := zg9 l d
 constructor
 · intro h v hv
   rw [h] at m2
   exact Classical.byContradiction fun hn => z0v v ((m2 v).2 ⟨hv, hl v hv, hn⟩)
 · intro h
   cases hm : z41 l d with
   | nil => rfl
   | cons s r =>
     rw [hm] at m1 m2
     obtain ⟨a, _, c⟩ := (m2 s.lo).1 (z0e.2 (.inl ⟨Int.le_refl _, m1.1 s (by simp)⟩))
     exact absurd (h _ a) c
theorem z4c {t : Term} {i o n : Int} (h : z4e t i o n = true) : z1p t = true ∧ prtB t n = true := by
 simp only [z4e, z2p, Bool.and_eq_true] at h
 obtain ⟨⟨⟨⟨_, hn⟩, hr⟩, _⟩, _⟩ := h
 refine ⟨hn, ?_⟩
 rw [prtB, List.all_eq_true]
 intro p hp
 have := List.all_eq_true.1 hr p hp
 simp only [Bool.and_eq_true] at this
 exact this.1
theorem zpz {t : Term} {gs : List (List Span)} (h4 : gs.length ≤ 4) (hn : z1p t = true) (hp : prtB t gs.length = true) {w : List Int} {v : Int} (hw : Win (gs.map symI) w) (hv : z6x t w = some v) : -1073741824 ≤ v ∧ v ≤ 1073741824 := by
 have hnum := hn
 simp only [z1p, Bool.and_eq_true, decide_eq_true_eq] at hnum
 have hbm := z44 hnum.1.1.1
 rw [z6e (z84 hp h4) hn hw] at hv
 split at hv
 · have := z3h hnum.1.2 (x := t.sum + totW w t.parts) (by omega)
   simp only [Option.some.injEq] at hv
   omega
 · cases hv
theorem zln {t : Term} {i o : Int} {gs : List (List Span)} (h4 : gs.length ≤ 4) : zc4 t i o gs = true ↔ z4e t i o gs.length = true ∧ ∀ w, Win (gs.map symI) w → fitW t o w = true := by
 rw [zc4, Bool.and_eq_true, Bool.and_eq_true, decide_eq_true_eq]
 refine and_congr_right fun hr => ?_
 obtain ⟨hn, hp⟩ := z4c hr
 obtain ⟨s1, s2, s3⟩ := zsk h4 hn hp
 constructor
 · rintro ⟨hi, hm⟩ w hw
   obtain ⟨p1, p2⟩ := s3 hi
   rw [z6f (fun v hv => by obtain ⟨w, h1, h2⟩ := (p2 v).1 hv; exact zpz h4 hn hp h1 h2) p1.1] at hm
   have hv := y09 (s1.1 hi w hw)
   have := z91.1 (hm _ ((p2 _).2 ⟨w, hw, hv⟩))
   have hb := zcd this
   rw [fitW, hv]
   simp [hb, this]
 · intro h
   have hi : (z3y t gs).2 = true := s1.2 fun w hw => by
     have := h w hw
     rw [fitW] at this
     cases hv : z6x t w with
     | none => rw [hv] at this; cases this
     | some v => rfl
   obtain ⟨p1, p2⟩ := s3 hi
   refine ⟨hi, (z6f (fun v hv => by obtain ⟨w, h1, h2⟩ := (p2 v).1 hv; exact zpz h4 hn hp h1 h2) p1.1).2 fun v hv => ?_⟩
   obtain ⟨w, h1, h2⟩ := (p2 v).1 hv
   have := h w h1
   rw [fitW, h2] at this
   simp only [Bool.and_eq_true] at this
   exact z91.2 this.2
def shR (n : Int) (r : Rule) : Rule := ⟨r.from_ + n, r.to_ + n, r.guards, r.eat, r.out⟩
def shF (n : Int) (f : z6z) : z6z := ⟨f.from_ + n, f.guards, f.out⟩
def zsl (a b : Desc) : List Rule := [⟨0, 1 + a.start, [], 0, []⟩, ⟨0, 1 + a.states + b.start, [], 0, []⟩]
def zx0 (a b : Desc) : Desc := ⟨a.in_, a.out, 1 + a.states + b.states, 0, zsl a b ++ a.rules.map (shR 1) ++ b.rules.map (shR (1 + a.states)), a.finals.map (shF 1) ++ b.finals.map (shF (1 + a.states))⟩
theorem zgo {d : Desc} (h : z5p d = 0) : zed d = true ∧ (∀ r ∈ d.rules, z4j d r = true) ∧ ∀ f ∈ d.finals, z38 d f = true := by
 have h0 : (z3m d).1 = 0 := by
   unfold z5p at h
   split at h
   · assumption
   · omega
 unfold z3m at h0
 split at h0
 · simp at h0
 · rename_i hh
   refine ⟨by simpa using hh, ?_⟩
   split at h0
   · simp at h0
   · rename_i hr
     split at h0
     · simp at h0
     · rename_i hf
       exact ⟨z6d hr, z6d hf⟩
theorem zc0 {d : Desc} {out : List Term} {gs : List (List Span)} (h : z2q d out gs = true) : out.length ≤ 64 ∧ ∀ t ∈ out, t.parts.length ≤ 4 := by
 simp only [z2q, Bool.and_eq_true, decide_eq_true_eq] at h
 refine ⟨by omega, fun t ht => ?_⟩
 have := List.all_eq_true.1 h.2 t ht
 simp only [zc4, Bool.and_eq_true] at this
 have h2 := (z4c this.1).1
 simp only [z1p, Bool.and_eq_true, decide_eq_true_eq] at h2
 exact h2.2.2
theorem z7l {α β : Type} [Inhabited α] (base : List β) (l : List α) (f : α → β) : ∃ g : Nat → List β, g 0 = base ∧ (∀ k, k < l.length → g (k + 1) = g k ++ [f (nth l k)]) ∧ g l.length = base ++ l.map f ∧ ∀ k, (g k).length ≤ base.length + k :=
 ⟨fun k => base ++ (l.take k).map f, by simp, fun k hk => by simp only; rw [take_at hk]; simp, by simp only; rw [List.take_length], fun k => by simp; omega⟩
theorem zlo {d : Desc} {r : Rule} (h : z4j d r = true) : (0 ≤ r.from_ ∧ r.from_ < d.states) ∧ (0 ≤ r.to_ ∧ r.to_ < d.states) ∧ PC Try.prog 48 [z0b r.guards] (z0b r.guards) ∧ PC Try.prog 49 [z4d r.out] (z4d r.out) := by
 have h0 := ziw h
 simp only [z4j, Bool.and_eq_true] at h
 obtain ⟨g1, g2⟩ := z4x h.2.2.1
 obtain ⟨w1, w2⟩ := zc0 h.2.2.2.2
 exact ⟨h0.1, h0.2, zej _ (by omega) fun g hg => by have := g2 g hg; omega, zgl _ (by omega) fun t ht => by have := w2 t ht; omega⟩
theorem zgp {d : Desc} {f : z6z} (h : z38 d f = true) : (0 ≤ f.from_ ∧ f.from_ < d.states) ∧ PC Try.prog 48 [z0b f.guards] (z0b f.guards) ∧ PC Try.prog 49 [z4d f.out] (z4d f.out) := by
 simp only [z38, z5o, Bool.and_eq_true, decide_eq_true_eq] at h
 obtain ⟨g1, g2⟩ := z4x h.2.1
 obtain ⟨w1, w2⟩ := zc0 h.2.2
 exact ⟨h.1, zej _ (by omega) fun g hg => by have := g2 g hg; omega, zgl _ (by omega) fun t ht => by have := w2 t ht; omega⟩
theorem zx1 (a b : Desc) (ha : z6s a) (hb : z6s b) (ca : z5p a = 0) (cb : z5p b = 0) (hin : a.in_ = b.in_) (hout : a.out = b.out) (h1 : 1 + a.states + b.states ≤ 1024) (h2 : 2 + a.rules.length + b.rules.length ≤ 4096) (h3 : a.finals.length + b.finals.length ≤ 4096) :
   PC Try.prog 28 [z1y a, z1y b] (.tup [z1y (zx0 a b), .int .i64 0]) := by
 have hCa := z87 a ha
 have hCb := z87 b hb
 rw [ca] at hCa
 rw [cb] at hCb
 obtain ⟨a1, a2, a3⟩ := zgo ca
 obtain ⟨b1, b2, b3⟩ := zgo cb
 have a4 := znn a1
 have b4 := znn b1
 have pa1 := z1h a.rules
 have pa2 := z1v a.finals
 have pb1 := z1h b.rules
 have pb2 := z1v b.finals
 refine z0t zmf ?_
 unfold zd4
 (repeat' (first | (simp (disch := omega) only [push_cast, ↓zz, seval, pa1, pa2, pb1, pb2, hin, hout]) | (with_reducible first | refine And.intro ?_ ?_ | (first | refine z01 ?_ ?_ | refine z00 ?_ ?_) <;> intro hc <;> (try simp only [push_cast] at hc)) | ((with_reducible first | refine eK hCa ?_ | refine eQ hCa ?_ | refine eG hCa ?_)) | ((with_reducible first | refine eK hCb ?_ | refine eQ hCb ?_ | refine eG hCb ?_)) | ((with_reducible first | refine cK hCa ?_ | refine cQ hCa ?_ | refine cG hCa ?_); (simp (disch := omega) only [push_cast, ↓zz, seval, pa1, pa2, pb1, pb2, hin, hout]); (fail_if_success (with_reducible change False))) | ((with_reducible first | refine cK hCb ?_ | refine cQ hCb ?_ | refine cG hCb ?_); (simp (disch := omega) only [push_cast, ↓zz, seval, pa1, pa2, pb1, pb2, hin, hout]); (fail_if_success (with_reducible change False))) | omega | with_reducible intro _))
 refine z0q 3 ?_
 (repeat' (first | (simp (disch := omega) only [push_cast, ↓zz, seval, pa1, pa2, pb1, pb2, hin, hout, Int.zero_mul, Int.one_mul, Int.add_zero]) | (with_reducible first | refine And.intro ?_ ?_ | (first | refine z01 ?_ ?_ | refine z00 ?_ ?_) <;> intro hc <;> (try simp only [push_cast] at hc)) | omega | with_reducible intro _))
 obtain ⟨g, g0, gs, ge0, gl⟩ := z7l (zsl a b) a.rules (shR 1)
 refine z0i (z0j (fun (k : Nat) => k ≤ a.rules.length) (fun k => a.rules.length - k) (fun k => [(2, .ptr 0 1 0 0), (4, .ptr 1 1 0 0), (7, .ptr 2 1 0 0), (9, .ptr 3 1 0 0), (10, .int .i64 1), (89, .agg [.int .i64 a.in_, .int .i64 a.out, .int .i64 a.states, .int .i64 a.start, z3j a.rules, z40 a.finals, .int .i64 b.in_, .int .i64 b.out, .int .i64 b.states, .int .i64 b.start, z3j b.rules, z40 b.finals]), (90, .int .i64 0), (100, z3j a.rules), (101, .int .i64 a.rules.length), (102, .int .i64 k)]) (fun k => [⟨6, 1, true, [z1y a]⟩, ⟨6, 1, true, [.agg [.int .i64 0, .int .i64 0, .int .i64 0, .int .i64 0, .nilS, .nilS]]⟩, ⟨6, 1, true, [.agg [.int .i64 a.in_, .int .i64 a.out, .int .i64 (1 + a.states + b.states), .int .i64 0, .ref 4 1 0 (g k).length, .ref 5 1 0 (([] : List z6z)).length]]⟩, ⟨6, 1, true, [z1y a]⟩, ⟨5, 1, false, (g k).map z5w⟩, ⟨3, 1, false, (([] : List z6z)).map z9d⟩]) (fun env H => [z0r 6 (env 2), z0r 6 (env 4), z0r 6 (env 7), z0r 6 (env 9), z0r 5 (cellAt H (env 7) 4), z0r 3 (cellAt H (env 7) 5)]) 0 (by simp) ?_ ?_)
 · (repeat' (first | (simp (disch := omega) only [push_cast, ↓zz, seval, pa1, pa2, pb1, pb2, hin, hout, Int.zero_mul, Int.one_mul, Int.add_zero, g0, zsl]) | (with_reducible first | refine And.intro ?_ ?_ | (first | refine z01 ?_ ?_ | refine z00 ?_ ?_) <;> intro hc <;> (try simp only [push_cast] at hc)) | omega | with_reducible intro _))
 intro k hk
 have gk := gl k
 have hbl : (zsl a b).length ≤ 2 := by simp [zsl]
 rcases Nat.lt_or_ge k a.rules.length with hkl | hkl
 · obtain ⟨d1, d2, d3, d4⟩ := zlo (a2 _ (z0k hkl))
   have e1 := gs k hkl
   generalize hre : nth a.rules k = r at *
   have hP := z06 r.guards
   have hT := z0w r.out
   have hpl := z1h (g k)
   refine W_T ?_
   (repeat' (first | (simp (disch := omega) only [push_cast, ↓zz, seval, pa1, pa2, pb1, pb2, hin, hout, Int.zero_mul, Int.one_mul, Int.add_zero, hre, hP, hT, hpl]) | (with_reducible first | refine And.intro ?_ ?_ | (first | refine z01 ?_ ?_ | refine z00 ?_ ?_) <;> intro hc <;> (try simp only [push_cast] at hc)) | ((with_reducible first | refine eK d3 ?_ | refine eQ d3 ?_ | refine eG d3 ?_)) | ((with_reducible first | refine eK d4 ?_ | refine eQ d4 ?_ | refine eG d4 ?_)) | ((with_reducible first | refine cK d3 ?_ | refine cQ d3 ?_ | refine cG d3 ?_); (simp (disch := omega) only [push_cast, ↓zz, seval, pa1, pa2, pb1, pb2, hin, hout, Int.zero_mul, Int.one_mul, Int.add_zero, hre, hP, hT, hpl]); (fail_if_success (with_reducible change False))) | ((with_reducible first | refine cK d4 ?_ | refine cQ d4 ?_ | refine cG d4 ?_); (simp (disch := omega) only [push_cast, ↓zz, seval, pa1, pa2, pb1, pb2, hin, hout, Int.zero_mul, Int.one_mul, Int.add_zero, hre, hP, hT, hpl]); (fail_if_success (with_reducible change False))) | omega | with_reducible intro _))
   all_goals
     refine ⟨k + 1, ?_⟩
     (repeat' (first | (simp (disch := omega) only [push_cast, ↓zz, seval, e1, shR, pa1, pa2, pb1, pb2, hin, hout, Int.zero_mul, Int.one_mul, Int.add_zero]) | (with_reducible first | refine And.intro ?_ ?_ | (first | refine z01 ?_ ?_ | refine z00 ?_ ?_) <;> intro hc <;> (try simp only [push_cast] at hc)) | omega | with_reducible intro _))
 have hke : k = a.rules.length := by omega
 subst hke
 have hpl0 := z1h (g a.rules.length)
 have hll0 : (g a.rules.length).length ≤ 5000 := by omega
 clear hk hkl gk gl gs g0 hbl
 generalize g a.rules.length = L0 at *
 refine W_T ?_
 (repeat' (first | (simp (disch := omega) only [push_cast, ↓zz, seval, pa1, pa2, pb1, pb2, hin, hout, Int.zero_mul, Int.one_mul, Int.add_zero, hpl0]) | (with_reducible first | refine And.intro ?_ ?_ | (first | refine z01 ?_ ?_ | refine z00 ?_ ?_) <;> intro hc <;> (try simp only [push_cast] at hc)) | omega | with_reducible intro _))
 obtain ⟨g, g0, gs, gf0, gl⟩ := z7l (([] : List z6z)) a.finals (shF 1)
 refine z0i (z0j (fun (k : Nat) => k ≤ a.finals.length) (fun k => a.finals.length - k) (fun k => [(2, .ptr 0 1 0 0), (4, .ptr 1 1 0 0), (7, .ptr 2 1 0 0), (9, .ptr 3 1 0 0), (10, .int .i64 1), (89, .agg [.int .i64 a.in_, .int .i64 a.out, .int .i64 a.states, .int .i64 a.start, z3j a.rules, z40 a.finals, .int .i64 b.in_, .int .i64 b.out, .int .i64 b.states, .int .i64 b.start, z3j b.rules, z40 b.finals]), (90, .int .i64 0), (130, z40 a.finals), (131, .int .i64 a.finals.length), (132, .int .i64 k)]) (fun k => [⟨6, 1, true, [z1y a]⟩, ⟨6, 1, true, [.agg [.int .i64 0, .int .i64 0, .int .i64 0, .int .i64 0, .nilS, .nilS]]⟩, ⟨6, 1, true, [.agg [.int .i64 a.in_, .int .i64 a.out, .int .i64 (1 + a.states + b.states), .int .i64 0, .ref 4 1 0 (L0).length, .ref 5 1 0 (g k).length]]⟩, ⟨6, 1, true, [z1y a]⟩, ⟨5, 1, false, (L0).map z5w⟩, ⟨3, 1, false, (g k).map z9d⟩]) (fun env H => [z0r 6 (env 2), z0r 6 (env 4), z0r 6 (env 7), z0r 6 (env 9), z0r 5 (cellAt H (env 7) 4), z0r 3 (cellAt H (env 7) 5)]) 0 (by simp) ?_ ?_)
 · (repeat' (first | (simp (disch := omega) only [push_cast, ↓zz, seval, pa1, pa2, pb1, pb2, hin, hout, Int.zero_mul, Int.one_mul, Int.add_zero, hpl0, g0]) | (with_reducible first | refine And.intro ?_ ?_ | (first | refine z01 ?_ ?_ | refine z00 ?_ ?_) <;> intro hc <;> (try simp only [push_cast] at hc)) | omega | with_reducible intro _))
 intro k hk
 have gk := gl k
 have hbl : (([] : List z6z)).length ≤ 5000 := by simp
 rcases Nat.lt_or_ge k a.finals.length with hkl | hkl
 · obtain ⟨d1, d3, d4⟩ := zgp (a3 _ (z0k hkl))
   have e1 := gs k hkl
   generalize hfe : nth a.finals k = f at *
   have hP := z06 f.guards
   have hT := z0w f.out
   have hpf := z1v (g k)
   refine W_T ?_
   (repeat' (first | (simp (disch := omega) only [push_cast, ↓zz, seval, pa1, pa2, pb1, pb2, hin, hout, Int.zero_mul, Int.one_mul, Int.add_zero, hfe, hP, hT, hpl0, hpf]) | (with_reducible first | refine And.intro ?_ ?_ | (first | refine z01 ?_ ?_ | refine z00 ?_ ?_) <;> intro hc <;> (try simp only [push_cast] at hc)) | ((with_reducible first | refine eK d3 ?_ | refine eQ d3 ?_ | refine eG d3 ?_)) | ((with_reducible first | refine eK d4 ?_ | refine eQ d4 ?_ | refine eG d4 ?_)) | ((with_reducible first | refine cK d3 ?_ | refine cQ d3 ?_ | refine cG d3 ?_); (simp (disch := omega) only [push_cast, ↓zz, seval, pa1, pa2, pb1, pb2, hin, hout, Int.zero_mul, Int.one_mul, Int.add_zero, hfe, hP, hT, hpl0, hpf]); (fail_if_success (with_reducible change False))) | ((with_reducible first | refine cK d4 ?_ | refine cQ d4 ?_ | refine cG d4 ?_); (simp (disch := omega) only [push_cast, ↓zz, seval, pa1, pa2, pb1, pb2, hin, hout, Int.zero_mul, Int.one_mul, Int.add_zero, hfe, hP, hT, hpl0, hpf]); (fail_if_success (with_reducible change False))) | omega | with_reducible intro _))
   all_goals
     refine ⟨k + 1, ?_⟩
     (repeat' (first | (simp (disch := omega) only [push_cast, ↓zz, seval, e1, shF, pa1, pa2, pb1, pb2, hin, hout, Int.zero_mul, Int.one_mul, Int.add_zero]) | (with_reducible first | refine And.intro ?_ ?_ | (first | refine z01 ?_ ?_ | refine z00 ?_ ?_) <;> intro hc <;> (try simp only [push_cast] at hc)) | omega | with_reducible intro _))
 have hke : k = a.finals.length := by omega
 subst hke
 have hpf0 := z1v (g a.finals.length)
 have hlf0 : (g a.finals.length).length ≤ 5000 := by simp at gk; omega
 clear hk hkl gk gl gs g0 hbl
 generalize g a.finals.length = F0 at *
 refine W_T ?_
 (repeat' (first | (simp (disch := omega) only [push_cast, ↓zz, seval, pa1, pa2, pb1, pb2, hin, hout, Int.zero_mul, Int.one_mul, Int.add_zero, hpl0, hpf0]) | (with_reducible first | refine And.intro ?_ ?_ | (first | refine z01 ?_ ?_ | refine z00 ?_ ?_) <;> intro hc <;> (try simp only [push_cast] at hc)) | omega | with_reducible intro _))
 refine z0a ?_
 (repeat' (first | (simp (disch := omega) only [push_cast, ↓zz, seval, pa1, pa2, pb1, pb2, hin, hout, Int.zero_mul, Int.one_mul, Int.add_zero, hpl0, hpf0]) | (with_reducible first | refine And.intro ?_ ?_ | (first | refine z01 ?_ ?_ | refine z00 ?_ ?_) <;> intro hc <;> (try simp only [push_cast] at hc)) | omega | with_reducible intro _))
 obtain ⟨g, g0, gs, ge1, gl⟩ := z7l (L0) b.rules (shR (1 + a.states))
 refine z0i (z0j (fun (k : Nat) => k ≤ b.rules.length) (fun k => b.rules.length - k) (fun k => [(2, .ptr 0 1 0 0), (4, .ptr 1 1 0 0), (7, .ptr 2 1 0 0), (9, .ptr 3 1 0 0), (10, .int .i64 (1 + a.states)), (89, .agg [.int .i64 a.in_, .int .i64 a.out, .int .i64 a.states, .int .i64 a.start, z3j a.rules, z40 a.finals, .int .i64 b.in_, .int .i64 b.out, .int .i64 b.states, .int .i64 b.start, z3j b.rules, z40 b.finals]), (90, .int .i64 1), (100, z3j b.rules), (101, .int .i64 b.rules.length), (102, .int .i64 k)]) (fun k => [⟨6, 1, true, [z1y a]⟩, ⟨6, 1, true, [.agg [.int .i64 0, .int .i64 0, .int .i64 0, .int .i64 0, .nilS, .nilS]]⟩, ⟨6, 1, true, [.agg [.int .i64 a.in_, .int .i64 a.out, .int .i64 (1 + a.states + b.states), .int .i64 0, .ref 4 1 0 (g k).length, .ref 5 1 0 (F0).length]]⟩, ⟨6, 1, true, [z1y b]⟩, ⟨5, 1, false, (g k).map z5w⟩, ⟨3, 1, false, (F0).map z9d⟩]) (fun env H => [z0r 6 (env 2), z0r 6 (env 4), z0r 6 (env 7), z0r 6 (env 9), z0r 5 (cellAt H (env 7) 4), z0r 3 (cellAt H (env 7) 5)]) 0 (by simp) ?_ ?_)
 · (repeat' (first | (simp (disch := omega) only [push_cast, ↓zz, seval, pa1, pa2, pb1, pb2, hin, hout, Int.zero_mul, Int.one_mul, Int.add_zero, hpl0, hpf0, g0, zsl]) | (with_reducible first | refine And.intro ?_ ?_ | (first | refine z01 ?_ ?_ | refine z00 ?_ ?_) <;> intro hc <;> (try simp only [push_cast] at hc)) | omega | with_reducible intro _))
 intro k hk
 have gk := gl k
 have hbl : (L0).length ≤ 5000 := by omega
 rcases Nat.lt_or_ge k b.rules.length with hkl | hkl
 · obtain ⟨d1, d2, d3, d4⟩ := zlo (b2 _ (z0k hkl))
   have e1 := gs k hkl
   generalize hre : nth b.rules k = r at *
   have hP := z06 r.guards
   have hT := z0w r.out
   have hpl := z1h (g k)
   refine W_T ?_
   (repeat' (first | (simp (disch := omega) only [push_cast, ↓zz, seval, pa1, pa2, pb1, pb2, hin, hout, Int.zero_mul, Int.one_mul, Int.add_zero, hpl0, hpf0, hre, hP, hT, hpl]) | (with_reducible first | refine And.intro ?_ ?_ | (first | refine z01 ?_ ?_ | refine z00 ?_ ?_) <;> intro hc <;> (try simp only [push_cast] at hc)) | ((with_reducible first | refine eK d3 ?_ | refine eQ d3 ?_ | refine eG d3 ?_)) | ((with_reducible first | refine eK d4 ?_ | refine eQ d4 ?_ | refine eG d4 ?_)) | ((with_reducible first | refine cK d3 ?_ | refine cQ d3 ?_ | refine cG d3 ?_); (simp (disch := omega) only [push_cast, ↓zz, seval, pa1, pa2, pb1, pb2, hin, hout, Int.zero_mul, Int.one_mul, Int.add_zero, hpl0, hpf0, hre, hP, hT, hpl]); (fail_if_success (with_reducible change False))) | ((with_reducible first | refine cK d4 ?_ | refine cQ d4 ?_ | refine cG d4 ?_); (simp (disch := omega) only [push_cast, ↓zz, seval, pa1, pa2, pb1, pb2, hin, hout, Int.zero_mul, Int.one_mul, Int.add_zero, hpl0, hpf0, hre, hP, hT, hpl]); (fail_if_success (with_reducible change False))) | omega | with_reducible intro _))
   all_goals
     refine ⟨k + 1, ?_⟩
     (repeat' (first | (simp (disch := omega) only [push_cast, ↓zz, seval, e1, shR, pa1, pa2, pb1, pb2, hin, hout, Int.zero_mul, Int.one_mul, Int.add_zero, hpl0, hpf0]) | (with_reducible first | refine And.intro ?_ ?_ | (first | refine z01 ?_ ?_ | refine z00 ?_ ?_) <;> intro hc <;> (try simp only [push_cast] at hc)) | omega | with_reducible intro _))
 have hke : k = b.rules.length := by omega
 subst hke
 have hpl1 := z1h (g b.rules.length)
 have hll1 : (g b.rules.length).length ≤ 10000 := by omega
 clear hk hkl gk gl gs g0 hbl
 generalize g b.rules.length = L1 at *
 refine W_T ?_
 (repeat' (first | (simp (disch := omega) only [push_cast, ↓zz, seval, pa1, pa2, pb1, pb2, hin, hout, Int.zero_mul, Int.one_mul, Int.add_zero, hpl0, hpf0, hpl1]) | (with_reducible first | refine And.intro ?_ ?_ | (first | refine z01 ?_ ?_ | refine z00 ?_ ?_) <;> intro hc <;> (try simp only [push_cast] at hc)) | omega | with_reducible intro _))
 obtain ⟨g, g0, gs, gf1, gl⟩ := z7l (F0) b.finals (shF (1 + a.states))
 refine z0i (z0j (fun (k : Nat) => k ≤ b.finals.length) (fun k => b.finals.length - k) (fun k => [(2, .ptr 0 1 0 0), (4, .ptr 1 1 0 0), (7, .ptr 2 1 0 0), (9, .ptr 3 1 0 0), (10, .int .i64 (1 + a.states)), (89, .agg [.int .i64 a.in_, .int .i64 a.out, .int .i64 a.states, .int .i64 a.start, z3j a.rules, z40 a.finals, .int .i64 b.in_, .int .i64 b.out, .int .i64 b.states, .int .i64 b.start, z3j b.rules, z40 b.finals]), (90, .int .i64 1), (130, z40 b.finals), (131, .int .i64 b.finals.length), (132, .int .i64 k)]) (fun k => [⟨6, 1, true, [z1y a]⟩, ⟨6, 1, true, [.agg [.int .i64 0, .int .i64 0, .int .i64 0, .int .i64 0, .nilS, .nilS]]⟩, ⟨6, 1, true, [.agg [.int .i64 a.in_, .int .i64 a.out, .int .i64 (1 + a.states + b.states), .int .i64 0, .ref 4 1 0 (L1).length, .ref 5 1 0 (g k).length]]⟩, ⟨6, 1, true, [z1y b]⟩, ⟨5, 1, false, (L1).map z5w⟩, ⟨3, 1, false, (g k).map z9d⟩]) (fun env H => [z0r 6 (env 2), z0r 6 (env 4), z0r 6 (env 7), z0r 6 (env 9), z0r 5 (cellAt H (env 7) 4), z0r 3 (cellAt H (env 7) 5)]) 0 (by simp) ?_ ?_)
 · (repeat' (first | (simp (disch := omega) only [push_cast, ↓zz, seval, pa1, pa2, pb1, pb2, hin, hout, Int.zero_mul, Int.one_mul, Int.add_zero, hpl0, hpf0, hpl1, g0]) | (with_reducible first | refine And.intro ?_ ?_ | (first | refine z01 ?_ ?_ | refine z00 ?_ ?_) <;> intro hc <;> (try simp only [push_cast] at hc)) | omega | with_reducible intro _))
 intro k hk
 have gk := gl k
 have hbl : (F0).length ≤ 5000 := by omega
 rcases Nat.lt_or_ge k b.finals.length with hkl | hkl
 · obtain ⟨d1, d3, d4⟩ := zgp (b3 _ (z0k hkl))
   have e1 := gs k hkl
   generalize hfe : nth b.finals k = f at *
   have hP := z06 f.guards
   have hT := z0w f.out
   have hpf := z1v (g k)
   refine W_T ?_
   (repeat' (first | (simp (disch := omega) only [push_cast, ↓zz, seval, pa1, pa2, pb1, pb2, hin, hout, Int.zero_mul, Int.one_mul, Int.add_zero, hpl0, hpf0, hfe, hP, hT, hpl1, hpf]) | (with_reducible first | refine And.intro ?_ ?_ | (first | refine z01 ?_ ?_ | refine z00 ?_ ?_) <;> intro hc <;> (try simp only [push_cast] at hc)) | ((with_reducible first | refine eK d3 ?_ | refine eQ d3 ?_ | refine eG d3 ?_)) | ((with_reducible first | refine eK d4 ?_ | refine eQ d4 ?_ | refine eG d4 ?_)) | ((with_reducible first | refine cK d3 ?_ | refine cQ d3 ?_ | refine cG d3 ?_); (simp (disch := omega) only [push_cast, ↓zz, seval, pa1, pa2, pb1, pb2, hin, hout, Int.zero_mul, Int.one_mul, Int.add_zero, hpl0, hpf0, hfe, hP, hT, hpl1, hpf]); (fail_if_success (with_reducible change False))) | ((with_reducible first | refine cK d4 ?_ | refine cQ d4 ?_ | refine cG d4 ?_); (simp (disch := omega) only [push_cast, ↓zz, seval, pa1, pa2, pb1, pb2, hin, hout, Int.zero_mul, Int.one_mul, Int.add_zero, hpl0, hpf0, hfe, hP, hT, hpl1, hpf]); (fail_if_success (with_reducible change False))) | omega | with_reducible intro _))
   all_goals
     refine ⟨k + 1, ?_⟩
     (repeat' (first | (simp (disch := omega) only [push_cast, ↓zz, seval, e1, shF, pa1, pa2, pb1, pb2, hin, hout, Int.zero_mul, Int.one_mul, Int.add_zero, hpl0, hpf0]) | (with_reducible first | refine And.intro ?_ ?_ | (first | refine z01 ?_ ?_ | refine z00 ?_ ?_) <;> intro hc <;> (try simp only [push_cast] at hc)) | omega | with_reducible intro _))
 have hke : k = b.finals.length := by omega
 subst hke
 have hpf1 := z1v (g b.finals.length)
 have hlf1 : (g b.finals.length).length ≤ 10000 := by omega
 clear hk hkl gk gl gs g0 hbl
 generalize g b.finals.length = F1 at *
 refine W_T ?_
 (repeat' (first | (simp (disch := omega) only [push_cast, ↓zz, seval, pa1, pa2, pb1, pb2, hin, hout, Int.zero_mul, Int.one_mul, Int.add_zero, hpl0, hpf0, hpl1, hpf1]) | (with_reducible first | refine And.intro ?_ ?_ | (first | refine z01 ?_ ?_ | refine z00 ?_ ?_) <;> intro hc <;> (try simp only [push_cast] at hc)) | omega | with_reducible intro _))
 refine z0a ?_
 (repeat' (first | (simp (disch := omega) only [push_cast, ↓zz, seval, pa1, pa2, pb1, pb2, hin, hout, Int.zero_mul, Int.one_mul, Int.add_zero, hpl0, hpf0, hpl1, hpf1]) | (with_reducible first | refine And.intro ?_ ?_ | (first | refine z01 ?_ ?_ | refine z00 ?_ ?_) <;> intro hc <;> (try simp only [push_cast] at hc)) | omega | with_reducible intro _))
 have e : z1y (zx0 a b) = .agg [.int .i64 a.in_, .int .i64 a.out, .int .i64 (1 + a.states + b.states), .int .i64 0, z3j L1, z40 F1] := by
   rw [ge1, gf1, ge0, gf0]; rfl
 rw [e, hin, hout]
 (repeat' (first | (simp (disch := omega) only [push_cast, ↓zz, seval, z1f]) | omega | (with_reducible refine And.intro ?_ ?_)))
 all_goals trace_state
theorem ziy {α : Type} {p : α → Bool} : ∀ {l : List α} {i : Nat}, (∀ x ∈ l, p x = true) → z4n p l i = none
 | [], _, _ => rfl
 | x :: l, i, h => by rw [z4n, if_pos (h x (by simp)), ziy fun y hy => h y (by simp [hy])]
theorem z92 {d : Desc} (h1 : zed d = true) (h2 : ∀ r ∈ d.rules, z4j d r = true) (h3 : ∀ f ∈ d.finals, z38 d f = true) (h4 : ¬ cycP d.rules d.states.toNat) : z3m d = (0, 0) ∧ z5p d = 0 := by
 have e : z3m d = (0, 0) := by
   rw [z3m, if_neg (by simp [h1]), ziy h2]
   simp only
   rw [ziy h3]
   simp only
   rw [if_neg h4]
 exact ⟨e, by rw [z5p, e]; rfl⟩
theorem zq0 (s : Int) : Full (domL s) ∧ ∀ v, memL (domL s) v → 0 ≤ v ∧ v ≤ 1114111 := by
 refine ⟨fun t ht => ?_, fun v hv => zcd (z91.1 hv)⟩
 unfold domL at ht
 split at ht
 · simp at ht; subst ht; simp
 · split at ht
   · simp at ht; rcases ht with rfl | rfl <;> simp
   · cases ht
theorem zgq {s : Int} (hs : s = 1 ∨ s = 2) : z2l s [domL s] = true := by
 have hm : z41 (domL s) (domL s) = [] := (z6f (fun v hv => by have := (zq0 s).2 v hv; omega) (zq0 s).1).2 fun v hv => hv
 have hc : zeb (domL s) = true := by rcases hs with rfl | rfl <;> decide
 simp only [z2l, z7j, List.all_cons, List.all_nil, hm, hc]
 rcases hs with rfl | rfl <;> rfl
theorem zsm {x : Int} (hx : 0 ≤ x ∧ x ≤ 1114111) : z6x zei [x] = some x := by
 have hr : z2t ⟨0, 0, 21, 0⟩ 1 = true := by decide
 have hv : valP ⟨0, 0, 21, 0⟩ x = x := (zvj (p := ⟨0, 0, 21, 0⟩) (by decide) (by omega)).2.2
 have := zwe (t := zei) (p := ⟨0, 0, 21, 0⟩) (x := x) rfl hr (by decide) (by decide) (by decide) hx
 have ho : zei.outer = ⟨0, 0, 21, 0⟩ := rfl
 have hs : zei.sum = 0 := rfl
 have hb : zei.base = 0 := rfl
 rw [this, ho, hs, hb, hv, Int.zero_add, hv, if_pos hx, Int.zero_add]
theorem zx2 {s : Int} (hs : s = 1 ∨ s = 2) : zc4 zei s s [domL s] = true := by
 refine (zln (by simp)).2 ⟨by rcases hs with rfl | rfl <;> decide, fun w hw => ?_⟩
 obtain ⟨x, r, rfl, h1, h2⟩ := win_cons.1 hw
 obtain rfl := y6g.1 h2
 have hm := ((z7h (domL s)).2 x).1 h1
 rw [fitW, zsm hm.1]
 simp only [Bool.and_eq_true, decide_eq_true_eq]
 exact ⟨hm.1, z91.1 hm.2⟩
theorem zeo {d : Desc} {s : Int} (hs : s = 1 ∨ s = 2) (h1 : d.in_ = s) (h2 : d.out = s) : z2q d [zei] [domL s] = true := by
 simp [z2q, h1, h2, zx2 hs]
def zac (a b : Int) : Desc := ⟨a, b, 1, 0, [], []⟩
theorem zsn {s : Int} (hs : s = 1 ∨ s = 2) : z3m (z8z s) = (0, 0) ∧ z5p (z8z s) = 0 := by
 refine z92 (by rcases hs with rfl | rfl <;> decide) (fun r hr => ?_) (fun f hf => ?_) ?_
 · simp only [z8z, List.mem_singleton] at hr
   subst hr
   simp only [z4j, Bool.and_eq_true]
   exact ⟨rfl, rfl, zgq hs, rfl, zeo hs rfl rfl⟩
 · simp only [z8z, List.mem_singleton] at hf
   subst hf
   simp [z38, z5o, z2l, z2q, z8z]
 · rintro ⟨C, hC, j, hj⟩
   obtain ⟨_, r, hr, he, _⟩ := hC j hj
   simp only [z8z, List.mem_singleton] at hr
   subst hr
   simp [z3v] at he
theorem znr {a b : Int} (ha : a = 1 ∨ a = 2) (hb : b = 1 ∨ b = 2) : z3m (zac a b) = (0, 0) ∧ z5p (zac a b) = 0 := by
 refine z92 (by rcases ha with rfl | rfl <;> rcases hb with rfl | rfl <;> decide) (fun r hr => by cases hr) (fun f hf => by cases hf) ?_
 rintro ⟨C, hC, j, hj⟩
 obtain ⟨_, r, hr, _⟩ := hC j hj
 cases hr
abbrev exJ : Desc := zx0 (z8z 1) (zac 1 1)
theorem zad : exJ.rules = [⟨0, 1, [], 0, []⟩, ⟨0, 2, [], 0, []⟩, ⟨1, 1, [domL 1], 1, [zei]⟩] := by rfl
theorem zgr : exJ.finals = [⟨1, [], []⟩] := rfl
theorem zx3 : z5p exJ = 0 := by
 refine (z92 (by decide) (fun r hr => ?_) (fun f hf => ?_) ?_).2
 · rw [zad] at hr
   simp only [List.mem_cons, List.not_mem_nil, or_false] at hr
   rcases hr with rfl | rfl | rfl
   · rfl
   · rfl
   · simp only [z4j, Bool.and_eq_true]
     exact ⟨rfl, rfl, zgq (.inl rfl), rfl, zeo (.inl rfl) rfl rfl⟩
 · rw [zgr] at hf
   simp only [List.mem_singleton] at hf
   subst hf
   have hst : exJ.states = 3 := rfl
   simp [z38, z5o, z2l, z2q, hst]
 · rintro ⟨C, hC, j, hj⟩
   have h0 : ¬ C 0 := fun h => by
     obtain ⟨_, r, hr, he, ht, _⟩ := hC 0 h
     rw [zad] at hr
     simp only [List.mem_cons, List.not_mem_nil, or_false] at hr
     rcases hr with rfl | rfl | rfl <;> simp at ht
   obtain ⟨_, r, hr, he, _, hf⟩ := hC j hj
   rw [zad] at hr
   simp only [List.mem_cons, List.not_mem_nil, or_false] at hr
   rcases hr with rfl | rfl | rfl
   · exact h0 hf
   · exact h0 hf
   · simp [z3v] at he
theorem y1i (s : Int) : z6s (z8z s) := ⟨fun r hr t ht => by
 simp only [z8z, List.mem_singleton] at hr
 subst hr
 simp only [List.mem_singleton] at ht
 subst ht
 decide, fun f hf t ht => by
 simp only [z8z, List.mem_singleton] at hf
 subst hf
 cases ht⟩
theorem zx4 (a b : Int) : z6s (zac a b) := ⟨fun r hr => (by cases hr), fun f hf => (by cases hf)⟩
theorem y6h : z6s exJ := ⟨fun r hr t ht => by
 rw [zad] at hr
 simp only [List.mem_cons, List.not_mem_nil, or_false] at hr
 rcases hr with rfl | rfl | rfl
 · cases ht
 · cases ht
 · simp only [List.mem_singleton] at ht
   subst ht
   decide, fun f hf t ht => by
 rw [zgr] at hf
 simp only [List.mem_singleton] at hf
 subst hf
 cases ht⟩
set_option maxRecDepth 100000 in
theorem zep : PC Try.prog 11 [] (.bool true) := by
 have h1 := zws 1
 have h2 : PC Try.prog 15 [.int .i64 1, .int .i64 1] (z1y (zac 1 1)) := zgk 1 1
 have h3 := zx1 (z8z 1) (zac 1 1) (y1i 1) (zx4 1 1) (zsn (.inl rfl)).2 (znr (.inl rfl) (.inl rfl)).2 rfl rfl (by decide) (by decide) (by decide)
 have h4 : PC Try.prog 14 [z1y (zx0 (z8z 1) (zac 1 1))] (.int .i64 0) := by
   have := z87 exJ y6h
   rwa [zx3] at this
 have eD : zx0 (z8z 1) (zac 1 1) = ⟨1, 1, 3, 0, [⟨0, 1, [], 0, []⟩, ⟨0, 2, [], 0, []⟩, ⟨1, 1, [[⟨0, 255⟩]], 1, [zei]⟩], [⟨1, [], []⟩]⟩ := rfl
 rw [eD] at h3 h4
 clear eD
 generalize z8z 1 = sv at *
 generalize zac 1 1 = ev at *
 refine z0t zho ?_
 unfold z9h
 (repeat' (first | (simp (disch := omega) only [push_cast, ↓zz, seval]) | (with_reducible first | refine And.intro ?_ ?_ | (first | refine z01 ?_ ?_ | refine z00 ?_ ?_) <;> intro hc <;> (try simp only [push_cast] at hc)) | ((with_reducible first | refine eK h1 ?_ | refine eQ h1 ?_ | refine eG h1 ?_)) | ((with_reducible first | refine eK h2 ?_ | refine eQ h2 ?_ | refine eG h2 ?_)) | ((with_reducible first | refine eK h3 ?_ | refine eQ h3 ?_ | refine eG h3 ?_)) | ((with_reducible first | refine eK h4 ?_ | refine eQ h4 ?_ | refine eG h4 ?_)) | ((with_reducible first | refine cK h1 ?_ | refine cQ h1 ?_ | refine cG h1 ?_); (simp (disch := omega) only [push_cast, ↓zz, seval]); (fail_if_success (with_reducible change False))) | ((with_reducible first | refine cK h2 ?_ | refine cQ h2 ?_ | refine cG h2 ?_); (simp (disch := omega) only [push_cast, ↓zz, seval]); (fail_if_success (with_reducible change False))) | ((with_reducible first | refine cK h3 ?_ | refine cQ h3 ?_ | refine cG h3 ?_); (simp (disch := omega) only [push_cast, ↓zz, seval]); (fail_if_success (with_reducible change False))) | ((with_reducible first | refine cK h4 ?_ | refine cQ h4 ?_ | refine cG h4 ?_); (simp (disch := omega) only [push_cast, ↓zz, seval]); (fail_if_success (with_reducible change False))) | omega | with_reducible intro _))
 all_goals trace_state
structure y6i (d : Desc) (k : Nat) (f : Bool) (w a l : Int) : Prop where
 le : k ≤ d.rules.length
 fr : freeB d = (f && (d.rules.drop k).all fun r => !z3v r)
 wi : ya0 d = (d.rules.drop k).foldl widF w
 ah : ya1 d = (d.rules.drop k).foldl aheF a
 lo : longV d = d.finals.foldl lonG ((d.rules.drop k).foldl lonF l)
 nn : 0 ≤ a
theorem y6i.step {d : Desc} {k : Nat} {f : Bool} {w a l : Int} (h : y6i d k f w a l) (hk : k < d.rules.length) {f2 : Bool} {w2 a2 l2 : Int} (e1 : f2 = (f && !z3v (nth d.rules k))) (e2 : w2 = widF w (nth d.rules k)) (e3 : a2 = aheF a (nth d.rules k)) (e4 : l2 = lonF l (nth d.rules k)) : y6i d (k + 1) f2 w2 a2 l2 where
 le := by omega
 fr := by rw [h.fr, drop_at hk, List.all_cons, e1, Bool.and_assoc]
 wi := by rw [h.wi, fold_at hk, e2]
 ah := by rw [h.ah, fold_at hk, e3]
 lo := by rw [h.lo, fold_at hk, e4]
 nn := by have := h.nn; rw [e3, aheF]; omega
def famB (n : Nat) (f : Nat → Bool) : List AV := (List.range n).map fun i => AV.bool (f i)
theorem ziz {n i : Nat} {f : Nat → Bool} {x : Bool} (h : i < n) : (famB n f).set i (.bool x) = famB n fun j => if j = i then x else f j := by
 rw [famB, z58 h, famB]
 refine List.map_congr_left fun p _ => ?_
 by_cases e : p = i
 · subst e; simp
 · simp [e]
theorem z59 {n : Nat} {f g : Nat → Bool} (h : ∀ i, i < n → f i = g i) : famB n f = famB n g := List.map_congr_left fun i hi => by rw [h i (by simpa using hi)]
theorem zq1 (n : Nat) : List.replicate n (AV.bool false) = famB n fun _ => false := by
 refine List.ext_getElem (by simp [famB]) fun i h1 h2 => ?_
 simp [famB]
theorem y1j {l : List Rule} {on : Nat → Bool} {m : Nat} (hm : m < l.length) : onF (l.take (m + 1)) on = fun j => onF (l.take m) on j || (z3v (nth l m) && (on (nth l m).from_.toNat && decide ((nth l m).to_ = j))) := by
 funext j
 rw [onF, take_at hm, List.any_append]
 simp [onF]
theorem zso {l : List Rule} {on : Nat → Bool} {m : Nat} (hm : m < l.length) : zas (l.take (m + 1)) on = (zas (l.take m) on || (z3v (nth l m) && on (nth l m).from_.toNat)) := by
 rw [zas, take_at hm, List.any_append]
 simp [zas]
theorem zns (d : Desc) (hd : y9z d) : PC Try.prog 18 [z1y d] (.bool (cycR d.rules d.states.toNat)) := by
 obtain ⟨⟨hn1, hn2⟩, hlen, hrul⟩ := hd
 have hPr := z1h d.rules
 have hPf := z1v d.finals
 obtain ⟨n, hn⟩ : ∃ n : Nat, d.states = n := ⟨d.states.toNat, by omega⟩
 have pB : ∀ f, z0l (famB n f) = true := fun f => z2i.2 fun x hx => by
   obtain ⟨i, _, rfl⟩ := List.mem_map.1 hx
   rfl
 have lB : ∀ f, (famB n f).length = n := fun f => by simp [famB]
 have aB : ∀ f i, i < n → (famB n f).getD i .any = .bool (f i) := fun f i hi => z2v hi
 have rB := zq1 n
 have hpd : z0l [z1y d] = true := by simp [z0l, zaz]
 refine z0t zhq ?_
 unfold z9j
 rw [hn, Int.toNat_natCast]
 (repeat' (first | (simp (disch := omega) only [push_cast, ↓zz, seval, hn]) | (with_reducible first | refine And.intro ?_ ?_ | (first | refine z01 ?_ ?_ | refine z00 ?_ ?_) <;> intro hc <;> (try simp only [push_cast] at hc)) | omega | with_reducible intro _))
 refine z0i (z0j (fun (k : Nat) => k ≤ n) (fun k => n - k)
   (fun k => [(1, .ptr 0 1 0 0), (3, .ref 1 1 0 n), (13, .int .i64 n), (14, .int .i64 k)]) (fun k => [⟨6, 1, true, [z1y d]⟩, ⟨1, 1, true, famB n fun i => decide (i < k)⟩]) (fun env _ => [z0r 6 (env 1), z0r 1 (env 3)]) 0 (by simp) ?_ ?_)
 · have e0 : (famB n fun i => decide (i < 0)) = famB n fun _ => false := z59 fun i _ => by simp
   (repeat' (first | (simp (disch := omega) only [push_cast, ↓zz, seval, hPr, hPf, hn, rB, e0, pB, lB, Int.toNat_natCast]) | (with_reducible first | refine And.intro ?_ ?_ | (first | refine z01 ?_ ?_ | refine z00 ?_ ?_) <;> intro hc <;> (try simp only [push_cast] at hc)) | omega | with_reducible intro _))
 intro k hk
 rcases Nat.lt_or_ge k n with hkn | hkn
 · have hs := ziz (f := fun i => decide (i < k)) (x := true) hkn
   have he : (famB n fun j => if j = k then true else decide (j < k)) = famB n fun i => decide (i < k + 1) := z59 fun i _ => by
     by_cases h : i = k
     · subst h; simp
     · rw [if_neg h, decide_eq_decide]; omega
   rw [he] at hs
   refine W_T ?_
   (repeat' (first | (simp (disch := omega) only [push_cast, ↓zz, seval, hPr, hPf, hn, pB, lB, hs]) | (with_reducible first | refine And.intro ?_ ?_ | (first | refine z01 ?_ ?_ | refine z00 ?_ ?_) <;> intro hc <;> (try simp only [push_cast] at hc)) | omega | with_reducible intro _))
   all_goals
     refine ⟨k + 1, ?_⟩
     (repeat' (first | (simp (disch := omega) only [push_cast, ↓zz, seval]) | (with_reducible first | refine And.intro ?_ ?_ | (first | refine z01 ?_ ?_ | refine z00 ?_ ?_) <;> intro hc <;> (try simp only [push_cast] at hc)) | omega | with_reducible intro _))
 · have hkk : n = k := by omega
   subst hkk
   have he : (famB n fun i => decide (i < n)) = famB n (onK d.rules 0) := z59 fun i hi => by simp [onK, hi]
   rw [he]
   refine W_T ?_
   (repeat' (first | (simp (disch := omega) only [push_cast, ↓zz, seval, hPr, hPf, hn, pB, lB]) | (with_reducible first | refine And.intro ?_ ?_ | (first | refine z01 ?_ ?_ | refine z00 ?_ ?_) <;> intro hc <;> (try simp only [push_cast] at hc)) | omega | with_reducible intro _))
   refine z0i (z0j (fun (k : Nat) => k ≤ n + 1 ∧ ∀ i, i < k → zas d.rules (onK d.rules i) = true) (fun k => n + 1 - k)
     (fun k => [(1, .ptr 0 1 0 0), (3, .ref 1 1 0 n), (5, .int .i64 k)]) (fun k => [⟨6, 1, true, [z1y d]⟩, ⟨1, 1, true, famB n (onK d.rules k)⟩]) (fun env _ => [z0r 6 (env 1), z0r 1 (env 3)]) 0 ⟨by simp, fun i hi => by omega⟩ ?_ ?_)
   · (repeat' (first | (simp (disch := omega) only [push_cast, ↓zz, seval, hPr, hPf, hn, pB, lB]) | (with_reducible first | refine And.intro ?_ ?_ | (first | refine z01 ?_ ?_ | refine z00 ?_ ?_) <;> intro hc <;> (try simp only [push_cast] at hc)) | omega | with_reducible intro _))
   rintro k ⟨k1, k2⟩
   rcases Nat.lt_or_ge k (n + 1) with hk1 | hk1
   · generalize hon : onK d.rules k = on at *
     refine W_T ?_
     (repeat' (first | (simp (disch := omega) only [push_cast, ↓zz, seval, hPr, hPf, hn, pB, lB, rB, Int.toNat_natCast]) | (with_reducible first | refine And.intro ?_ ?_ | (first | refine z01 ?_ ?_ | refine z00 ?_ ?_) <;> intro hc <;> (try simp only [push_cast] at hc)) | omega | with_reducible intro _))
     refine z0i (z0j (fun (m : Nat) => m ≤ d.rules.length) (fun m => d.rules.length - m)
       (fun m => [(1, .ptr 0 1 0 0), (3, .ref 1 1 0 n), (5, .int .i64 k), (6, .ref 2 1 0 n), (7, .bool (zas (d.rules.take m) on)), (8, .int .i64 m)]) (fun m => [⟨6, 1, true, [z1y d]⟩, ⟨1, 1, true, famB n on⟩, ⟨1, 1, true, famB n (onF (d.rules.take m) on)⟩]) (fun env _ => [z0r 6 (env 1), z0r 1 (env 3), z0r 1 (env 6)]) 0 (by simp) ?_ ?_)
     · have e1 : famB n (onF [] on) = famB n fun _ => false := z59 fun i _ => by simp [onF]
       have e2 : zas [] on = false := by simp [zas]
       (repeat' (first | (simp (disch := omega) only [push_cast, ↓zz, seval, hPr, hPf, hn, pB, lB, e1, e2]) | (with_reducible first | refine And.intro ?_ ?_ | (first | refine z01 ?_ ?_ | refine z00 ?_ ?_) <;> intro hc <;> (try simp only [push_cast] at hc)) | omega | with_reducible intro _))
     intro m hm
     rcases Nat.lt_or_ge m d.rules.length with hml | hml
     · have hr := hrul _ (z0k hml)
       have e1 := y1j (on := on) hml
       have e2 := zso (on := on) hml
       generalize hre : nth d.rules m = r at *
       have hP := z06 r.guards
       have hT := z0w r.out
       obtain ⟨i, hi⟩ : ∃ i : Nat, r.from_ = i := ⟨r.from_.toNat, by omega⟩
       obtain ⟨j, hj⟩ : ∃ j : Nat, r.to_ = j := ⟨r.to_.toNat, by omega⟩
       have hin : i < n := by omega
       have hjn : j < n := by omega
       have aI := aB on i hin
       have hset := ziz (f := onF (d.rules.take m) on) (x := true) hjn
       rw [hi, hj, Int.toNat_natCast] at e1
       rw [hi, Int.toNat_natCast] at e2
       by_cases he : (r.guards.length : Int) = 0
       · have hie : z3v r = true := by simp [z3v, he]
         rw [hie] at e1 e2
         cases hoi : on i with
         | true =>
           rw [hoi] at aI e1 e2
           have e3 : (famB n fun p => if p = j then true else onF (d.rules.take m) on p) = famB n (onF (d.rules.take (m + 1)) on) := z59 fun p _ => by
             rw [e1]
             by_cases h : p = j
             · subst h; simp
             · have : ¬ (j : Int) = p := by omega
               simp [h, this]
           rw [e3] at hset
           simp only [Bool.and_self, Bool.or_true] at e2
           refine W_T ?_
           (repeat' (first | (simp (disch := omega) only [push_cast, ↓zz, seval, hPr, hPf, hn, pB, lB, hre, hP, hT, hi, hj, he, aI, hset]) | (with_reducible first | refine And.intro ?_ ?_ | (first | refine z01 ?_ ?_ | refine z00 ?_ ?_) <;> intro hc <;> (try simp only [push_cast] at hc)) | omega | with_reducible intro _))
           all_goals
             refine ⟨m + 1, ?_⟩
             (repeat' (first | (simp (disch := omega) only [push_cast, ↓zz, seval, e2]) | (with_reducible first | refine And.intro ?_ ?_ | (first | refine z01 ?_ ?_ | refine z00 ?_ ?_) <;> intro hc <;> (try simp only [push_cast] at hc)) | omega | with_reducible intro _))
         | false =>
           rw [hoi] at aI e1 e2
           have e3 : famB n (onF (d.rules.take (m + 1)) on) = famB n (onF (d.rules.take m) on) := z59 fun p _ => by rw [e1]; simp
           simp only [Bool.and_false, Bool.or_false] at e2
           refine W_T ?_
           (repeat' (first | (simp (disch := omega) only [push_cast, ↓zz, seval, hPr, hPf, hn, pB, lB, hre, hP, hT, hi, hj, he, aI]) | (with_reducible first | refine And.intro ?_ ?_ | (first | refine z01 ?_ ?_ | refine z00 ?_ ?_) <;> intro hc <;> (try simp only [push_cast] at hc)) | omega | with_reducible intro _))
           all_goals
             refine ⟨m + 1, ?_⟩
             (repeat' (first | (simp (disch := omega) only [push_cast, ↓zz, seval, e2, e3]) | (with_reducible first | refine And.intro ?_ ?_ | (first | refine z01 ?_ ?_ | refine z00 ?_ ?_) <;> intro hc <;> (try simp only [push_cast] at hc)) | omega | with_reducible intro _))
       · have hie : z3v r = false := decide_eq_false he
         rw [hie] at e1 e2
         have e3 : famB n (onF (d.rules.take (m + 1)) on) = famB n (onF (d.rules.take m) on) := z59 fun p _ => by rw [e1]; simp
         simp only [Bool.false_and, Bool.or_false] at e2
         refine W_T ?_
         (repeat' (first | (simp (disch := omega) only [push_cast, ↓zz, seval, hPr, hPf, hn, pB, lB, hre, hP, hT, hi, hj, he]) | (with_reducible first | refine And.intro ?_ ?_ | (first | refine z01 ?_ ?_ | refine z00 ?_ ?_) <;> intro hc <;> (try simp only [push_cast] at hc)) | omega | with_reducible intro _))
         all_goals
           refine ⟨m + 1, ?_⟩
           (repeat' (first | (simp (disch := omega) only [push_cast, ↓zz, seval, e2, e3]) | (with_reducible first | refine And.intro ?_ ?_ | (first | refine z01 ?_ ?_ | refine z00 ?_ ?_) <;> intro hc <;> (try simp only [push_cast] at hc)) | omega | with_reducible intro _))
     · have hme : m = d.rules.length := by omega
       subst hme
       rw [List.take_length]
       have hnx : onF d.rules on = onK d.rules (k + 1) := by rw [← hon]; rfl
       rw [hnx]
       cases hsm : zas d.rules on with
       | false =>
         have hres : cycR d.rules n = false := by
           rw [cycR, List.all_eq_false]
           exact ⟨k, by simp; omega, by rw [hon, hsm]; simp⟩
         rw [hres]
         refine W_T ?_
         (repeat' (first | (simp (disch := omega) only [push_cast, ↓zz, seval, hPr, hPf, hn, pB, lB]) | (with_reducible first | refine And.intro ?_ ?_ | (first | refine z01 ?_ ?_ | refine z00 ?_ ?_) <;> intro hc <;> (try simp only [push_cast] at hc)) | omega | with_reducible intro _))
       | true =>
         have hall : ∀ i, i < k + 1 → zas d.rules (onK d.rules i) = true := fun i hi => by
           rcases Nat.lt_or_ge i k with h | h
           · exact k2 i h
           · obtain rfl : i = k := by omega
             rw [hon]; exact hsm
         refine W_T ?_
         (repeat' (first | (simp (disch := omega) only [push_cast, ↓zz, seval, hPr, hPf, hn, pB, lB]) | (with_reducible first | refine And.intro ?_ ?_ | (first | refine z01 ?_ ?_ | refine z00 ?_ ?_) <;> intro hc <;> (try simp only [push_cast] at hc)) | omega | with_reducible intro _))
         all_goals
           refine ⟨k + 1, ?_⟩
           (repeat' (first | (simp (disch := omega) only [push_cast, ↓zz, seval]) | (with_reducible first | refine And.intro ?_ ?_ | (first | refine z01 ?_ ?_ | refine z00 ?_ ?_) <;> intro hc <;> (try simp only [push_cast] at hc)) | omega | with_reducible intro _))
         all_goals first | exact hall _ (by omega) | exact hall
   · have hke : k = n + 1 := by omega
     have hres : cycR d.rules n = true := by
       rw [cycR, List.all_eq_true]
       intro i hi
       exact k2 i (by simp at hi; omega)
     rw [hres]
     refine W_T ?_
     (repeat' (first | (simp (disch := omega) only [push_cast, ↓zz, seval, hPr, hPf, hn, pB, lB]) | (with_reducible first | refine And.intro ?_ ?_ | (first | refine z01 ?_ ?_ | refine z00 ?_ ?_) <;> intro hc <;> (try simp only [push_cast] at hc)) | omega | with_reducible intro _))
     all_goals trace_state
open Classical in
theorem y2f (n : Int) : 0 ≤ IntKind.u64.wrap n ∧ IntKind.u64.wrap n ≤ 18446744073709551615 := by
 simp [IntKind.wrap, IntKind.bits, IntKind.signed]
 omega
theorem zx5 (v : Nat) (l : List Int) (x : Int) (hr : z1d l) (hl : l.length ≤ 1000000000000) {K : AV → z02 → Prop} (p : Nat) (hp : Place l x p p)
   (hyes : p < l.length → nth l p = x → K (.ref 0 v 0 l.length) (Abs.hl [⟨1, v, false, l.map intV⟩]))
   (hno : (p < l.length → nth l p ≠ x) → K (.ref 0 (v + 1) 0 (l.length + 1)) (Abs.hl [⟨1, v + 1, false, (l.take p ++ x :: l.drop p).map intV⟩])) :
   z0z Try.prog 91 [.ref 0 v 0 l.length, .int .i64 x] (Abs.hl [⟨1, v, false, l.map intV⟩]) K := by
 refine z9y (b := 1) zmr rfl ?_
 unfold zdi
 (repeat' (first | (simp (disch := omega) only [push_cast, ↓zz, seval]) | (with_reducible first | refine And.intro ?_ ?_ | (first | refine z01 ?_ ?_ | refine z00 ?_ ?_) <;> intro hc <;> (try simp only [push_cast] at hc)) | omega | with_reducible intro _))
 refine z0i (z0j (fun (s : Nat × Nat) => Place l x s.1 s.2) (fun s => s.2 - s.1) (fun s => [(0, .ref 0 v 0 l.length), (1, .int .i64 x), (5, .int .i64 s.1), (6, .int .i64 s.2)])
   (fun _ => [⟨1, v, false, l.map intV⟩]) (fun _ _ => []) (0, l.length) ⟨by simp, by simp, by simp, by intro j h1 h2; simp at h1; omega⟩ ?_ ?_)
 · (repeat' (first | (simp (disch := omega) only [push_cast, ↓zz, seval]) | (with_reducible first | refine And.intro ?_ ?_ | (first | refine z01 ?_ ?_ | refine z00 ?_ ?_) <;> intro hc <;> (try simp only [push_cast] at hc)) | omega | with_reducible intro _))
 rintro ⟨lo, hi⟩ hpl
 have hle := hpl.le
 have htop := hpl.top
 simp only at hle htop
 rcases Nat.lt_or_ge lo hi with hlh | hlh
 · obtain ⟨s1, s2⟩ := zgb hr hpl hlh
   have hm : (lo + hi) / 2 < l.length := by omega
   have hw : IntKind.i64.wrap (((lo : Int) + (hi : Int)).tdiv 2) = (((lo + hi) / 2 : Nat) : Int) := by
     rw [Int.tdiv_eq_ediv_of_nonneg (by omega), show ((lo : Int) + hi) / 2 = (((lo + hi) / 2 : Nat) : Int) by omega]
     exact IntWalk.i64_in _ (by omega)
   refine W_T ?_
   (repeat' (first | (simp (disch := omega) only [push_cast, ↓zz, seval, hw]) | (with_reducible first | refine And.intro ?_ ?_ | (first | refine z01 ?_ ?_ | refine z00 ?_ ?_) <;> intro hc <;> (try simp only [push_cast] at hc)) | omega | with_reducible intro _))
   all_goals rw [show (((lo : Int) + hi) / 2).toNat = (lo + hi) / 2 by omega] at hc
   · exact ⟨((lo + hi) / 2 + 1, hi), ⟨by simp only; omega, rfl⟩, s1 hc, by simp only; omega⟩
   · exact ⟨(lo, (lo + hi) / 2), ⟨rfl, by simp only; omega⟩, s2 hc, by simp only; omega⟩
 · have hlp : lo = p ∧ hi = p := by
     have e : lo = hi := by omega
     subst e
     rcases Nat.lt_trichotomy lo p with h | h | h
     · have := hp.lt lo h; have := hpl.ge lo (Nat.le_refl _) (by have := hp.top; omega); omega
     · exact ⟨h, h⟩
     · have := hpl.lt p h; have := hp.ge p (Nat.le_refl _) (by omega); omega
   obtain ⟨rfl, rfl⟩ := hlp
   refine W_T ?_
   (repeat' (first | (simp (disch := omega) only [push_cast, ↓zz, seval]) | (with_reducible first | refine And.intro ?_ ?_ | (first | refine z01 ?_ ?_ | refine z00 ?_ ?_) <;> intro hc <;> (try simp only [push_cast] at hc)) | omega | with_reducible intro _))
   · exact hyes (by omega) hc
   all_goals
     have hn := hno (by first | exact fun _ => hc | exact fun h => absurd h (by omega))
     refine z0i (z0j (fun (s : Nat × Int) => hi ≤ s.1 ∧ s.1 ≤ l.length) (fun s => s.1) (fun s => [(0, .ref 0 (v + 1) 0 (l.length + 1)), (1, .int .i64 x), (5, .int .i64 hi), (8, .int .i64 s.1)])
       (fun s => [⟨1, v + 1, false, (gapL l s.1 s.2).map intV⟩]) (fun _ _ => []) (l.length, 0) ⟨by simp only; omega, by simp⟩ ?_ ?_)
     · (repeat' (first | (simp (disch := omega) only [push_cast, ↓zz, seval, zpj]) | (with_reducible first | refine And.intro ?_ ?_ | (first | refine z01 ?_ ?_ | refine z00 ?_ ?_) <;> intro hc <;> (try simp only [push_cast] at hc)) | omega | with_reducible intro _))
     rintro ⟨i, y⟩ ⟨h1, h2⟩
     simp only at h1 h2
     have hgl := zpi (y := y) h2
     refine W_T ?_
     rcases Nat.lt_or_ge hi i with hlt | hge
     · obtain ⟨i, rfl⟩ : ∃ k, i = k + 1 := ⟨i - 1, by omega⟩
       have hs := zc9 (y := y) (z := nth l i) h2
       have ha := zw6 (y := y) (show i < l.length by omega)
       rw [zl9 (by omega)] at hs
       (repeat' (first | (simp (disch := omega) only [push_cast, ↓zz, seval, hgl, hs, ha, z4s]) | (with_reducible first | refine And.intro ?_ ?_ | (first | refine z01 ?_ ?_ | refine z00 ?_ ?_) <;> intro hc <;> (try simp only [push_cast] at hc)) | omega | with_reducible intro _))
       all_goals exact ⟨(i, nth l i), ⟨rfl, z0n _ _⟩, ⟨by simp only; omega, by simp only; omega⟩, by simp only; omega⟩
     · obtain rfl : i = hi := by omega
       have hs := zc9 (y := y) (z := x) h2
       (repeat' (first | (simp (disch := omega) only [push_cast, ↓zz, seval, hgl, hs]) | (with_reducible first | refine And.intro ?_ ?_ | (first | refine z01 ?_ ?_ | refine z00 ?_ ?_) <;> intro hc <;> (try simp only [push_cast] at hc)) | omega | with_reducible intro _))
       exact hn
theorem zlp (v : Nat) (l : List Int) (x : Int) (hr : z1d l) (hl : l.length ≤ 1000000000000) :
   z0z Try.prog 91 [.ref 0 v 0 l.length, .int .i64 x] (Abs.hl [⟨1, v, false, l.map intV⟩]) fun y H' => ∃ v', y = .ref 0 v' 0 (putI l x).length ∧ H' = Abs.hl [⟨1, v', false, (putI l x).map intV⟩] := by
 obtain ⟨e1, e2⟩ := zij l x
 refine zx5 v l x hr hl (lowI l x) (z6b hr x) (fun h1 h2 => ?_) (fun h => ?_)
 · rw [putI, if_pos ((zik hr x).2 ⟨h1, h2⟩)]
   exact ⟨v, rfl, rfl⟩
 · rw [putI, if_neg (fun hx => by obtain ⟨h1, h2⟩ := (zik hr x).1 hx; exact h h1 h2), ← e1, ← e2]
   refine ⟨v + 1, ?_, rfl⟩
   congr 1
   have := (z6b hr x).top
   simp; omega
theorem zgs : ∀ {a b : List Int}, z1d a → z1d b → (∀ x, x ∈ a ↔ x ∈ b) → a = b
 | [], [], _, _, _ => rfl
 | [], y :: b, _, _, h => absurd ((h y).2 (by simp)) (by simp)
 | x :: a, [], _, _, h => absurd ((h x).1 (by simp)) (by simp)
 | x :: a, y :: b, ha, hb, h => by
   obtain ⟨a1, a2⟩ := List.pairwise_cons.1 ha
   obtain ⟨b1, b2⟩ := List.pairwise_cons.1 hb
   have hx := (h x).1 (by simp)
   have hy := (h y).2 (by simp)
   have e : x = y := by
     rcases List.mem_cons.1 hx with e | hx
     · exact e
     · rcases List.mem_cons.1 hy with e | hy
       · exact e.symm
       · have := b1 x hx; have := a1 y hy; omega
   subst e
   rw [zgs a2 b2 fun z => ?_]
   have hz := h z
   simp only [List.mem_cons] at hz
   constructor
   · intro hm
     rcases hz.1 (.inr hm) with e | hm'
     · have := a1 z hm; omega
     · exact hm'
   · intro hm
     rcases hz.2 (.inr hm) with e | hm'
     · have := b1 z hm; omega
     · exact hm'
theorem z89 : ∀ (m l : List Int), z1d l → z1d (m.foldl putI l) ∧ (m.foldl putI l).length ≤ l.length + m.length ∧ ∀ v, v ∈ m.foldl putI l ↔ v ∈ l ∨ v ∈ m
 | [], l, h => ⟨h, by simp, fun v => by simp⟩
 | x :: m, l, h => by
   obtain ⟨i1, i2, i3⟩ := z89 m (putI l x) (z5g h x)
   have hl : (putI l x).length ≤ l.length + 1 := by
     unfold putI
     split
     · omega
     · have := congrArg List.length (List.takeWhile_append_dropWhile (p := fun y => decide (y < x)) (l := l))
       simp only [List.length_append, List.length_cons] at this ⊢
       omega
   refine ⟨i1, by simp only [List.foldl_cons, List.length_cons]; omega, fun v => ?_⟩
   rw [List.foldl_cons, i3, zii, List.mem_cons]
   constructor
   · rintro ((h | h) | h)
     · exact .inr (.inl h)
     · exact .inl h
     · exact .inr (.inr h)
   · rintro (h | h | h)
     · exact .inl (.inr h)
     · exact .inl (.inl h)
     · exact .inr h
def z5q (out : List Span) (x : Int) : List Span := addS out ⟨x, x⟩
def z8j (l : List Int) : List Span := l.foldl z5q []
theorem zgt (l : List Int) : ∀ out : List Span, (l.foldl z5q out).length ≤ out.length + l.length := by
 induction l with
 | nil => intro out; simp
 | cons x l ih =>
   intro out
   have := ih (z5q out x)
   have h2 := y0p out ⟨x, x⟩
   simp only [List.foldl_cons, List.length_cons, z5q] at *
   omega
theorem znt (l : List Int) (hl : l.length ≤ 1000000000) (hb : ∀ x ∈ l, -1099511627776 ≤ x ∧ x ≤ 1099511627776) : PC Try.prog 93 [z4l l] (z03 (z8j l)) := by
 have hP : z0l (l.map (AV.int .i64)) = true := z4h .i64 l
 refine z0t zi1 ?_
 unfold z9u
 (repeat' (first | (simp (disch := omega) only [push_cast, ↓zz, seval]) | (with_reducible first | refine And.intro ?_ ?_ | (first | refine z01 ?_ ?_ | refine z00 ?_ ?_) <;> intro hc <;> (try simp only [push_cast] at hc)) | omega | with_reducible intro _))
 refine z0i (z0j (fun (k : Nat) => k ≤ l.length) (fun k => l.length - k)
   (fun k => [(0, z4l l), (3, .ref 0 1 0 ((l.take k).foldl z5q []).length), (4, .int .i64 k)]) (fun k => [⟨2, 1, false, ((l.take k).foldl z5q []).map z1e⟩]) (fun env _ => [z0r 2 (env 3)]) 0 (by simp) ?_ ?_)
 · (repeat' (first | (simp (disch := omega) only [push_cast, ↓zz, seval, hP, List.foldl_nil, List.length_nil]) | (with_reducible first | refine And.intro ?_ ?_ | (first | refine z01 ?_ ?_ | refine z00 ?_ ?_) <;> intro hc <;> (try simp only [push_cast] at hc)) | omega | with_reducible intro _))
 intro k hk
 have hlen := zgt (l.take k) []
 simp only [List.length_nil, List.length_take] at hlen
 rcases Nat.lt_or_ge k l.length with hkl | hkl
 · have hxb := hb _ (z0k hkl)
   have hst : (l.take (k + 1)).foldl z5q [] = addS ((l.take k).foldl z5q []) ⟨nth l k, nth l k⟩ := by rw [take_at hkl, List.foldl_append]; rfl
   generalize hxe : nth l k = x at *
   generalize hoe : (l.take k).foldl z5q [] = out at *
   have hwn : IntKind.i64.wrap (x - 1) = x - 1 := IntWalk.i64_in _ (by omega)
   rcases z3g out with rfl | ⟨mm, z, hout⟩
   · rw [z57] at hst
     refine W_T ?_
     (repeat' (first | (simp (disch := omega) only [push_cast, ↓zz, seval, hP, hxe, hwn]) | (with_reducible first | refine And.intro ?_ ?_ | (first | refine z01 ?_ ?_ | refine z00 ?_ ?_) <;> intro hc <;> (try simp only [push_cast] at hc)) | omega | with_reducible intro _))
     all_goals
       refine ⟨k + 1, ?_⟩
       (repeat' (first | (simp (disch := omega) only [push_cast, ↓zz, seval, hst]) | (with_reducible first | refine And.intro ?_ ?_ | (first | refine z01 ?_ ?_ | refine z00 ?_ ?_) <;> intro hc <;> (try simp only [push_cast] at hc)) | omega | with_reducible intro _))
   · have l1 : out.length = mm.length + 1 := by rw [hout]; simp
     have l2 : nth out mm.length = z := by rw [hout]; exact zim
     have l3 : IntKind.i64.wrap (mm.length : Int) = mm.length := IntWalk.i64_in _ (by omega)
     have l4 : (out.map z1e).set mm.length (.agg [.int .i64 z.lo, .int .i64 x]) = (mm ++ [(⟨z.lo, x⟩ : Span)]).map z1e := by rw [hout]; exact z7g (f := z1e) (z := ⟨z.lo, x⟩)
     have hadd : addS out ⟨x, x⟩ = if z.hi = x - 1 then mm ++ [⟨z.lo, x⟩] else out ++ [⟨x, x⟩] := by rw [hout, z6c]
     rw [hadd] at hst
     clear hadd hout
     refine W_T ?_
     (repeat' (first | (simp (disch := omega) only [push_cast, ↓zz, seval, hP, hxe, hwn, l1, l2, l3, l4]) | (with_reducible first | refine And.intro ?_ ?_ | (first | refine z01 ?_ ?_ | refine z00 ?_ ?_) <;> intro hc <;> (try simp only [push_cast] at hc)) | omega | with_reducible intro _))
     · rw [if_pos (by assumption)] at hst
       refine ⟨k + 1, ?_⟩
       (repeat' (first | (simp (disch := omega) only [push_cast, ↓zz, seval, hst]) | (with_reducible first | refine And.intro ?_ ?_ | (first | refine z01 ?_ ?_ | refine z00 ?_ ?_) <;> intro hc <;> (try simp only [push_cast] at hc)) | omega | with_reducible intro _))
     · rw [if_neg (by assumption)] at hst
       refine ⟨k + 1, ?_⟩
       (repeat' (first | (simp (disch := omega) only [push_cast, ↓zz, seval, hst, l1]) | (with_reducible first | refine And.intro ?_ ?_ | (first | refine z01 ?_ ?_ | refine z00 ?_ ?_) <;> intro hc <;> (try simp only [push_cast] at hc)) | omega | with_reducible intro _))
 · have et : l.take k = l := List.take_of_length_le hkl
   have hke : k = l.length := by omega
   rw [et] at hlen ⊢
   have hsl : l.foldl z5q [] = z8j l := rfl
   rw [hsl] at hlen ⊢
   have hpp := z2b (z8j l)
   refine W_T ?_
   (repeat' (first | (simp (disch := omega) only [push_cast, ↓zz, seval, hP, hke, hpp]) | (with_reducible first | refine And.intro ?_ ?_ | (first | refine z01 ?_ ?_ | refine z00 ?_ ?_) <;> intro hc <;> (try simp only [push_cast] at hc)) | omega | with_reducible intro _))
   all_goals trace_state
def prs (a b : List Int) : List Int := a.flatMap fun x => b.map (x + ·)
def bigB (v : Int) : Bool := decide (1114111 < v)
def zeq (a b : List Int) : Option (List Int) := if (prs a b).any bigB then none else some ((prs a b).foldl putI [])
abbrev optL (o : Option (List Int)) : AV := .tup [z4l (o.getD []), .bool o.isSome]
theorem zer {a b : List Int} {v : Int} : v ∈ prs a b ↔ ∃ x ∈ a, ∃ y ∈ b, x + y = v := by simp [prs]
theorem zq2 {a b : List Int} {k : Nat} (h : k < a.length) : prs (a.take (k + 1)) b = prs (a.take k) b ++ b.map (nth a k + ·) := by rw [prs, take_at h]; simp [prs]
theorem y6j (a b : List Int) : (prs a b).length = a.length * b.length := by
 induction a with
 | nil => simp [prs]
 | cons x a ih =>
   have : prs (x :: a) b = b.map (x + ·) ++ prs a b := rfl
   rw [this, List.length_append, List.length_map, ih, List.length_cons, Nat.add_mul]
   omega
theorem zq3 {a b : List Int} {i k : Nat} (hi : i < a.length) (hk : k < b.length) (h : 1114111 < nth a i + nth b k) : zeq a b = none := by
 rw [zeq, if_pos]
 rw [List.any_eq_true]
 exact ⟨_, zer.2 ⟨_, z0k hi, _, z0k hk, rfl⟩, by simpa [bigB] using h⟩
theorem zq4 {a b : List Int} (h : ∀ v ∈ prs a b, v ≤ 1114111) : zeq a b = some ((prs a b).foldl putI []) := by
 rw [zeq, if_neg]
 simp only [List.any_eq_true, not_exists, not_and, bigB, decide_eq_true_eq]
 intro v hv
 have := h v hv
 omega
def z4o (m : List Int) (k : Nat) : List Int := ((List.range k).filter fun (t : Nat) => decide ((t : Int) - 1114111 ∈ m)).map fun (t : Nat) => (t : Int) - 1114111
theorem znu (m : List Int) (k : Nat) : z4o m (k + 1) = if (k : Int) - 1114111 ∈ m then z4o m k ++ [(k : Int) - 1114111] else z4o m k := by
 rw [z4o, List.range_succ, List.filter_append, List.map_append]
 split
 · rename_i h; simp [z4o, h]
 · rename_i h; simp [z4o, h]
theorem zsp (m : List Int) (k : Nat) : (z4o m k).length ≤ k := by
 have := List.length_filter_le (fun t : Nat => decide ((t : Int) - 1114111 ∈ m)) (List.range k)
 simpa [z4o] using this
theorem zsq {m : List Int} {k : Nat} {v : Int} : v ∈ z4o m k ↔ (-1114111 ≤ v ∧ v < (k : Int) - 1114111) ∧ v ∈ m := by
 simp only [z4o, List.mem_map, List.mem_filter, List.mem_range, decide_eq_true_eq]
 constructor
 · rintro ⟨t, ⟨h1, h2⟩, rfl⟩
   exact ⟨by omega, h2⟩
 · rintro ⟨h1, h2⟩
   exact ⟨(v + 1114111).toNat, ⟨by omega, by rw [show (((v + 1114111).toNat : Nat) : Int) - 1114111 = v by omega]; exact h2⟩, by omega⟩
theorem zj0 (m : List Int) (k : Nat) : z1d (z4o m k) := by
 rw [z1d, z4o, List.pairwise_map]
 exact ((List.pairwise_lt_range).filter _).imp fun h => by omega
theorem zsr (a b : List Int) (hla : a.length ≤ 3000000) (hlb : b.length ≤ 3000000) (ha : ∀ x ∈ a, -1114111 ≤ x ∧ x ≤ 1099511627776) (hb : ∀ x ∈ b, 0 ≤ x ∧ x ≤ 1099511627776) :
   PC Try.prog 92 [z4l a, z4l b] (optL (zeq a b)) := by
 have pa : z0l (a.map (AV.int .i64)) = true := z4h .i64 a
 have pb : z0l (b.map (AV.int .i64)) = true := z4h .i64 b
 have hmul : ((a.length * b.length : Nat) : Int) = (a.length : Int) * b.length := by push_cast
 have hml : a.length * b.length ≤ 3000000 * 3000000 := Nat.mul_le_mul hla hlb
 have hw : IntKind.i64.wrap ((a.length : Int) * b.length) = (a.length : Int) * b.length := IntWalk.i64_in _ (by omega)
 refine z0t zko ?_
 unfold zbr
 generalize hN : (2228223 : Int) = N
 (repeat' (first | (simp (disch := omega) only [push_cast, ↓zz, seval, hw]) | (with_reducible first | refine And.intro ?_ ?_ | (first | refine z01 ?_ ?_ | refine z00 ?_ ?_) <;> intro hc <;> (try simp only [push_cast] at hc)) | omega | with_reducible intro _))
 · have h4 : a.length * b.length ≤ 4000 := by
     rw [← hmul] at hc
     omega
   refine z0i (z0j (fun (s : Nat × List Int) => s.1 ≤ a.length ∧ s.2 = (prs (a.take s.1) b).foldl putI [] ∧ ∀ v ∈ prs (a.take s.1) b, v ≤ 1114111) (fun s => a.length - s.1)
     (fun s => [(0, z4l a), (1, z4l b), (6, .ref 0 1 0 s.2.length), (7, .int .i64 s.1)]) (fun s => [⟨1, 1, false, s.2.map (AV.int .i64)⟩]) (fun env _ => [z0r 1 (env 6)]) (0, []) ⟨by simp, rfl, by simp [prs]⟩ ?_ ?_)
   · (repeat' (first | (simp (disch := omega) only [push_cast, ↓zz, seval, pa, pb]) | (with_reducible first | refine And.intro ?_ ?_ | (first | refine z01 ?_ ?_ | refine z00 ?_ ?_) <;> intro hc <;> (try simp only [push_cast] at hc)) | omega | with_reducible intro _))
   rintro ⟨i, out⟩ ⟨i1, i2, i3⟩
   simp only at i1 i2 i3
   rcases Nat.lt_or_ge i a.length with hi | hi
   · have hx := ha _ (z0k hi)
     have hsn := zq2 (b := b) hi
     refine W_T ?_
     (repeat' (first | (simp (disch := omega) only [push_cast, ↓zz, seval, pa, pb]) | (with_reducible first | refine And.intro ?_ ?_ | (first | refine z01 ?_ ?_ | refine z00 ?_ ?_) <;> intro hc <;> (try simp only [push_cast] at hc)) | omega | with_reducible intro _))
     refine z0i (z0j (fun (s : Nat × List Int) => s.1 ≤ b.length ∧ s.2 = (prs (a.take i) b ++ (b.take s.1).map (nth a i + ·)).foldl putI [] ∧ ∀ v ∈ prs (a.take i) b ++ (b.take s.1).map (nth a i + ·), v ≤ 1114111) (fun s => b.length - s.1)
       (fun s => [(0, z4l a), (1, z4l b), (6, .ref 0 1 0 s.2.length), (7, .int .i64 i), (8, .int .i64 s.1)]) (fun s => [⟨1, 1, false, s.2.map (AV.int .i64)⟩]) (fun env _ => [z0r 1 (env 6)]) (0, out) ⟨by simp, by simpa using i2, by simpa using i3⟩ ?_ ?_)
     · (repeat' (first | (simp (disch := omega) only [push_cast, ↓zz, seval, pa, pb]) | (with_reducible first | refine And.intro ?_ ?_ | (first | refine z01 ?_ ?_ | refine z00 ?_ ?_) <;> intro hc <;> (try simp only [push_cast] at hc)) | omega | with_reducible intro _))
     rintro ⟨k, o⟩ ⟨k1, k2, k3⟩
     simp only at k1 k2 k3
     rcases Nat.lt_or_ge k b.length with hk | hk
     · have hy := hb _ (z0k hk)
       have hno := fun h => zq3 hi hk h
       have hst : (b.take (k + 1)).map (nth a i + ·) = (b.take k).map (nth a i + ·) ++ [nth a i + nth b k] := by rw [take_at hk]; simp
       obtain ⟨f1, f2, _⟩ := z89 (prs (a.take i) b ++ (b.take k).map (nth a i + ·)) [] (by simp [z1d])
       rw [← k2] at f1 f2
       have hol : o.length ≤ 10000000000 := by
         have h1 := y6j (a.take i) b
         have h2 : (a.take i).length * b.length ≤ a.length * b.length := Nat.mul_le_mul_right _ (by simp; omega)
         simp only [List.length_append, List.length_map, List.length_nil, List.length_take] at f2 h1 h2
         omega
       generalize hxe : nth a i = x at *
       generalize hye : nth b k = y at *
       have hws : IntKind.i64.wrap (x + y) = x + y := IntWalk.i64_in _ (by omega)
       refine W_T ?_
       (repeat' (first | (simp (disch := omega) only [push_cast, ↓zz, seval, pa, pb, hxe, hye, hws]) | (with_reducible first | refine And.intro ?_ ?_ | (first | refine z01 ?_ ?_ | refine z00 ?_ ?_) <;> intro hc <;> (try simp only [push_cast] at hc)) | omega | with_reducible intro _))
       · rw [hno (by assumption)]
         (repeat' (first | (simp (disch := omega) only [push_cast, ↓zz, seval, z1f]) | omega | (with_reducible refine And.intro ?_ ?_)))
       · (refine zmz [0] (zlp 1 o (x + y) f1 (by omega)) (by decide) (by simp) (by (simp (disch := omega) only [push_cast, ↓zz, seval])) (by (simp (disch := omega) only [push_cast, ↓zz, seval])) (by (simp (disch := omega) only [push_cast, ↓zz, seval])) (by (simp (disch := omega) only [push_cast, ↓zz, seval, List.mem_cons, List.not_mem_nil, or_false, forall_eq_or_imp, forall_eq, List.forall_mem_nil])) ?_)
         rintro y' H' ⟨v', rfl, rfl⟩
         refine ⟨_, rfl, by simp, ?_⟩
         (repeat' (first | (simp (disch := omega) only [push_cast, ↓zz, seval]) | (with_reducible first | refine And.intro ?_ ?_ | (first | refine z01 ?_ ?_ | refine z00 ?_ ?_) <;> intro hc <;> (try simp only [push_cast] at hc)) | omega | with_reducible intro _))
         have hm : prs (a.take i) b ++ ((b.take k).map (x + ·) ++ [x + y]) = (prs (a.take i) b ++ (b.take k).map (x + ·)) ++ [x + y] := by rw [List.append_assoc]
         refine ⟨(k + 1, putI o (x + y)), ⟨⟨rfl, by push_cast⟩, z0n _ _⟩, ⟨by simp only; omega, ?_, ?_⟩, by simp only; omega⟩
         · rw [hst, hm, List.foldl_append, ← k2]; rfl
         · rw [hst, hm]
           intro v hv
           rcases List.mem_append.1 hv with hv | hv
           · exact k3 v hv
           · simp only [List.mem_singleton] at hv; omega
     · have hkb : b.take k = b := List.take_of_length_le hk
       rw [hkb, ← hsn] at k2 k3
       refine W_T ?_
       (repeat' (first | (simp (disch := omega) only [push_cast, ↓zz, seval, pa, pb]) | (with_reducible first | refine And.intro ?_ ?_ | (first | refine z01 ?_ ?_ | refine z00 ?_ ?_) <;> intro hc <;> (try simp only [push_cast] at hc)) | omega | with_reducible intro _))
       all_goals exact ⟨(i + 1, o), ⟨⟨rfl, by push_cast⟩, z0n _ _⟩, ⟨by simp only; omega, k2, k3⟩, by simp only; omega⟩
   · have hia : a.take i = a := List.take_of_length_le hi
     rw [hia] at i2 i3
     have hres := zq4 i3
     rw [← i2] at hres
     rw [hres]
     refine W_T ?_
     (repeat' (first | (simp (disch := omega) only [push_cast, ↓zz, seval, pa, pb]) | (with_reducible first | refine And.intro ?_ ?_ | (first | refine z01 ?_ ?_ | refine z00 ?_ ?_) <;> intro hc <;> (try simp only [push_cast] at hc)) | omega | with_reducible intro _))
     all_goals (simp only [optL, Option.getD_some, Option.isSome_some]; (repeat' (first | (simp (disch := omega) only [push_cast, ↓zz, seval, z1f]) | omega | (with_reducible refine And.intro ?_ ?_))))
 · obtain ⟨n, hn⟩ : ∃ n : Nat, N = n := ⟨N.toNat, by omega⟩
   subst hn
   have pB : ∀ f, z0l (famB n f) = true := fun f => z2i.2 fun x hx => by
     obtain ⟨i, _, rfl⟩ := List.mem_map.1 hx
     rfl
   have lB : ∀ f, (famB n f).length = n := fun f => by simp [famB]
   have aB : ∀ f i, i < n → (famB n f).getD i .any = .bool (f i) := fun f i hi => z2v hi
   have rB := zq1 n
   refine z0i (z0j (fun (i : Nat) => i ≤ a.length ∧ ∀ v ∈ prs (a.take i) b, v ≤ 1114111) (fun i => a.length - i)
     (fun i => [(0, z4l a), (1, z4l b), (9, .ref 0 1 0 n), (10, .int .i64 i)]) (fun i => [⟨1, 1, true, famB n fun t => decide ((t : Int) - 1114111 ∈ prs (a.take i) b)⟩]) (fun env _ => [z0r 1 (env 9)]) 0 ⟨by simp, by simp [prs]⟩ ?_ ?_)
   · have e0 : (famB n fun t => decide ((t : Int) - 1114111 ∈ prs [] b)) = famB n fun _ => false := z59 fun t _ => by simp [prs]
     (repeat' (first | (simp (disch := omega) only [push_cast, ↓zz, seval, pa, pb, rB, pB, lB, e0, Int.toNat_natCast]) | (with_reducible first | refine And.intro ?_ ?_ | (first | refine z01 ?_ ?_ | refine z00 ?_ ?_) <;> intro hc <;> (try simp only [push_cast] at hc)) | omega | with_reducible intro _))
     all_goals
       show leSL _ (famB n fun _ => false) (famB n fun t => decide ((t : Int) - 1114111 ∈ prs [] b))
       rw [e0]
       exact z0n _ _
   rintro i ⟨i1, i3⟩
   rcases Nat.lt_or_ge i a.length with hi | hi
   · have hx := ha _ (z0k hi)
     have hsn := zq2 (b := b) hi
     refine W_T ?_
     (repeat' (first | (simp (disch := omega) only [push_cast, ↓zz, seval, pa, pb, pB, lB]) | (with_reducible first | refine And.intro ?_ ?_ | (first | refine z01 ?_ ?_ | refine z00 ?_ ?_) <;> intro hc <;> (try simp only [push_cast] at hc)) | omega | with_reducible intro _))
     refine z0i (z0j (fun (k : Nat) => k ≤ b.length ∧ ∀ v ∈ prs (a.take i) b ++ (b.take k).map (nth a i + ·), v ≤ 1114111) (fun k => b.length - k)
       (fun k => [(0, z4l a), (1, z4l b), (9, .ref 0 1 0 n), (10, .int .i64 i), (11, .int .i64 k)]) (fun k => [⟨1, 1, true, famB n fun t => decide ((t : Int) - 1114111 ∈ prs (a.take i) b ++ (b.take k).map (nth a i + ·))⟩]) (fun env _ => [z0r 1 (env 9)]) 0 ⟨by simp, by simpa using i3⟩ ?_ ?_)
     · have e0 : (famB n fun t => decide ((t : Int) - 1114111 ∈ prs (a.take i) b ++ [])) = famB n fun t => decide ((t : Int) - 1114111 ∈ prs (a.take i) b) := by rw [List.append_nil]
       (repeat' (first | (simp (disch := omega) only [push_cast, ↓zz, seval, pa, pb, pB, lB, e0, List.take_zero, List.map_nil]) | (with_reducible first | refine And.intro ?_ ?_ | (first | refine z01 ?_ ?_ | refine z00 ?_ ?_) <;> intro hc <;> (try simp only [push_cast] at hc)) | omega | with_reducible intro _))
     rintro k ⟨k1, k3⟩
     rcases Nat.lt_or_ge k b.length with hk | hk
     · have hy := hb _ (z0k hk)
       have hno := fun h => zq3 hi hk h
       have hst : (b.take (k + 1)).map (nth a i + ·) = (b.take k).map (nth a i + ·) ++ [nth a i + nth b k] := by rw [take_at hk]; simp
       generalize hxe : nth a i = x at *
       generalize hye : nth b k = y at *
       have hws : IntKind.i64.wrap (x + y) = x + y := IntWalk.i64_in _ (by omega)
       have hws2 : IntKind.i64.wrap (x + y + 1114111) = x + y + 1114111 := IntWalk.i64_in _ (by omega)
       by_cases hbg : 1114111 < x + y
       · rw [hno hbg]
         refine W_T ?_
         (repeat' (first | (simp (disch := omega) only [push_cast, ↓zz, seval, pa, pb, pB, lB, hxe, hye, hws]) | (with_reducible first | refine And.intro ?_ ?_ | (first | refine z01 ?_ ?_ | refine z00 ?_ ?_) <;> intro hc <;> (try simp only [push_cast] at hc)) | omega | with_reducible intro _))
         all_goals (repeat' (first | (simp (disch := omega) only [push_cast, ↓zz, seval, z1f]) | omega | (with_reducible refine And.intro ?_ ?_)))
       · obtain ⟨t, ht⟩ : ∃ t : Nat, x + y + 1114111 = t := ⟨(x + y + 1114111).toNat, by omega⟩
         have htn : t < n := by omega
         have hset := ziz (f := fun t => decide ((t : Int) - 1114111 ∈ prs (a.take i) b ++ (b.take k).map (x + ·))) (x := true) htn
         have he : (famB n fun j => if j = t then true else decide ((j : Int) - 1114111 ∈ prs (a.take i) b ++ (b.take k).map (x + ·))) = famB n fun j => decide ((j : Int) - 1114111 ∈ prs (a.take i) b ++ (b.take (k + 1)).map (x + ·)) := z59 fun j _ => by
           rw [hst, ← List.append_assoc]
           by_cases h : j = t
           · subst h
             rw [if_pos rfl, eq_comm, decide_eq_true_eq, List.mem_append]
             exact .inr (by simp; omega)
           · rw [if_neg h, decide_eq_decide, List.mem_append (s := prs (a.take i) b ++ (b.take k).map (x + ·))]
             simp only [List.mem_singleton]
             exact ⟨.inl, fun hh => hh.elim id fun hh => absurd hh (by omega)⟩
         rw [he] at hset
         refine W_T ?_
         (repeat' (first | (simp (disch := omega) only [push_cast, ↓zz, seval, pa, pb, pB, lB, hxe, hye, hws, hws2, ht, hset]) | (with_reducible first | refine And.intro ?_ ?_ | (first | refine z01 ?_ ?_ | refine z00 ?_ ?_) <;> intro hc <;> (try simp only [push_cast] at hc)) | omega | with_reducible intro _))
         all_goals
           refine ⟨k + 1, ?_⟩
           (repeat' (first | (simp (disch := omega) only [push_cast, ↓zz, seval]) | (with_reducible first | refine And.intro ?_ ?_ | (first | refine z01 ?_ ?_ | refine z00 ?_ ?_) <;> intro hc <;> (try simp only [push_cast] at hc)) | omega | with_reducible intro _))
         all_goals
           rename_i v hv
           rw [hst, ← List.append_assoc] at hv
           rcases List.mem_append.1 hv with hv | hv
           · exact k3 v hv
           · simp only [List.mem_singleton] at hv; omega
     · have hkb : b.take k = b := List.take_of_length_le hk
       rw [hkb, ← hsn] at k3
       rw [hkb, ← hsn]
       refine W_T ?_
       (repeat' (first | (simp (disch := omega) only [push_cast, ↓zz, seval, pa, pb, pB, lB]) | (with_reducible first | refine And.intro ?_ ?_ | (first | refine z01 ?_ ?_ | refine z00 ?_ ?_) <;> intro hc <;> (try simp only [push_cast] at hc)) | omega | with_reducible intro _))
       all_goals
         refine ⟨i + 1, ?_⟩
         (repeat' (first | (simp (disch := omega) only [push_cast, ↓zz, seval]) | (with_reducible first | refine And.intro ?_ ?_ | (first | refine z01 ?_ ?_ | refine z00 ?_ ?_) <;> intro hc <;> (try simp only [push_cast] at hc)) | omega | with_reducible intro _))
       all_goals exact k3
   · have hia : a.take i = a := List.take_of_length_le hi
     rw [hia] at i3
     have hres := zq4 i3
     have hmem : ∀ v, v ∈ prs a b → -1114111 ≤ v ∧ v ≤ 1114111 := fun v hv => by
       obtain ⟨x, hx, y, hy, rfl⟩ := zer.1 hv
       have h1 := ha x hx
       have h2 := hb y hy
       have h3 := i3 _ hv
       omega
     rw [hia]
     refine W_T ?_
     (repeat' (first | (simp (disch := omega) only [push_cast, ↓zz, seval, pa, pb, pB, lB]) | (with_reducible first | refine And.intro ?_ ?_ | (first | refine z01 ?_ ?_ | refine z00 ?_ ?_) <;> intro hc <;> (try simp only [push_cast] at hc)) | omega | with_reducible intro _))
     have lG : ∀ k, k ≤ n → (z4o (prs a b) k).length ≤ k := fun k _ => zsp _ k
     refine z0i (z0j (fun (k : Nat) => k ≤ n) (fun k => n - k)
       (fun k => [(9, .ref 0 1 0 n), (12, .ref 1 1 0 (z4o (prs a b) k).length), (13, .int .i64 k)]) (fun k => [⟨1, 1, true, famB n fun t => decide ((t : Int) - 1114111 ∈ prs a b)⟩, ⟨1, 1, false, (z4o (prs a b) k).map (AV.int .i64)⟩]) (fun env _ => [z0r 1 (env 9), z0r 1 (env 12)]) 0 (by simp) ?_ ?_)
     · have e0 : z4o (prs a b) 0 = [] := rfl
       (repeat' (first | (simp (disch := omega) only [push_cast, ↓zz, seval, pB, lB, e0]) | (with_reducible first | refine And.intro ?_ ?_ | (first | refine z01 ?_ ?_ | refine z00 ?_ ?_) <;> intro hc <;> (try simp only [push_cast] at hc)) | omega | with_reducible intro _))
     intro k hk
     have hlk := lG k hk
     rcases Nat.lt_or_ge k n with hkn | hkn
     · have aK := aB (fun t => decide ((t : Int) - 1114111 ∈ prs a b)) k hkn
       have hst := znu (prs a b) k
       have hwk : IntKind.i64.wrap ((k : Int) - 1114111) = (k : Int) - 1114111 := IntWalk.i64_in _ (by omega)
       by_cases hm : (k : Int) - 1114111 ∈ prs a b
       · rw [if_pos hm] at hst
         rw [decide_eq_true hm] at aK
         refine W_T ?_
         (repeat' (first | (simp (disch := omega) only [push_cast, ↓zz, seval, pB, lB, aK, hwk]) | (with_reducible first | refine And.intro ?_ ?_ | (first | refine z01 ?_ ?_ | refine z00 ?_ ?_) <;> intro hc <;> (try simp only [push_cast] at hc)) | omega | with_reducible intro _))
         all_goals
           refine ⟨k + 1, ?_⟩
           (repeat' (first | (simp (disch := omega) only [push_cast, ↓zz, seval, hst]) | (with_reducible first | refine And.intro ?_ ?_ | (first | refine z01 ?_ ?_ | refine z00 ?_ ?_) <;> intro hc <;> (try simp only [push_cast] at hc)) | omega | with_reducible intro _))
       · rw [if_neg hm] at hst
         rw [decide_eq_false hm] at aK
         refine W_T ?_
         (repeat' (first | (simp (disch := omega) only [push_cast, ↓zz, seval, pB, lB, aK, hwk]) | (with_reducible first | refine And.intro ?_ ?_ | (first | refine z01 ?_ ?_ | refine z00 ?_ ?_) <;> intro hc <;> (try simp only [push_cast] at hc)) | omega | with_reducible intro _))
         all_goals
           refine ⟨k + 1, ?_⟩
           (repeat' (first | (simp (disch := omega) only [push_cast, ↓zz, seval, hst]) | (with_reducible first | refine And.intro ?_ ?_ | (first | refine z01 ?_ ?_ | refine z00 ?_ ?_) <;> intro hc <;> (try simp only [push_cast] at hc)) | omega | with_reducible intro _))
     · have hke : k = n := by omega
       subst hke
       have heq : z4o (prs a b) k = (prs a b).foldl putI [] := by
         obtain ⟨f1, _, f3⟩ := z89 (prs a b) [] (by simp [z1d])
         refine zgs (zj0 _ _) f1 fun v => ?_
         rw [zsq, f3]
         simp only [List.not_mem_nil, false_or]
         constructor
         · exact fun h => h.2
         · intro h
           have := hmem v h
           exact ⟨by omega, h⟩
       have hpo : z0l ((z4o (prs a b) k).map (AV.int .i64)) = true := z4h .i64 _
       rw [heq] at hpo hlk ⊢
       rw [hres]
       refine W_T ?_
       (repeat' (first | (simp (disch := omega) only [push_cast, ↓zz, seval, pB, lB, hpo]) | (with_reducible first | refine And.intro ?_ ?_ | (first | refine z01 ?_ ?_ | refine z00 ?_ ?_) <;> intro hc <;> (try simp only [push_cast] at hc)) | omega | with_reducible intro _))
       all_goals (simp only [optL, Option.getD_some, Option.isSome_some]; (repeat' (first | (simp (disch := omega) only [push_cast, ↓zz, seval, z1f]) | omega | (with_reducible refine And.intro ?_ ?_))))
theorem zc1 (s : Int) : PC Try.prog 56 [.int .i64 s] (z03 (domL s)) := by
 refine z0t zf5 ?_
 unfold z8f
 (repeat' (first | (simp (disch := omega) only [push_cast, ↓zz, seval]) | (with_reducible first | refine And.intro ?_ ?_ | (first | refine z01 ?_ ?_ | refine z00 ?_ ?_) <;> intro hc <;> (try simp only [push_cast] at hc)) | omega | with_reducible intro _))
 all_goals (simp only [domL, *]; rfl)
theorem zss (l : List Span) (d : Int) (hl : l.length ≤ 10000000000) : PC Try.prog 89 [z03 l, .int .i64 d] (z03 (z3i l d)) := by
 have hN := z83 l hl
 have hz : (d < -2147483648 ∨ 2147483648 < d) → z3i l d = [] := fun h => by rw [z3i, if_pos h]
 refine z0t zkn ?_
 unfold zbq
 by_cases hb : d < -2147483648 ∨ 2147483648 < d
 · rw [hz hb]
   (repeat' (first | (simp (disch := omega) only [push_cast, ↓zz, seval]) | (with_reducible first | refine And.intro ?_ ?_ | (first | refine z01 ?_ ?_ | refine z00 ?_ ?_) <;> intro hc <;> (try simp only [push_cast] at hc)) | omega | with_reducible intro _))
   all_goals first
     | (exfalso; omega)
     | ((repeat' (first | (simp (disch := omega) only [push_cast, ↓zz, seval, z1f]) | omega | (with_reducible refine And.intro ?_ ?_))); done)
 have hbd := z2u l
 have hmv : z3i l d = z0d ((z0d l).map (z3l d)) := by rw [z3i, if_neg hb]
 have hnl : (z0d l).length ≤ 10000000000 := Nat.le_trans (z37 l) hl
 have hM := z83 ((z0d l).map (z3l d)) (by simpa using hnl)
 rw [hmv]
 generalize z0d l = m at *
 obtain ⟨g, g0, gs, ge, gl⟩ := z7l ([] : List Span) m (z3l d)
 (repeat' (first | (simp (disch := omega) only [push_cast, ↓zz, seval]) | (with_reducible first | refine And.intro ?_ ?_ | (first | refine z01 ?_ ?_ | refine z00 ?_ ?_) <;> intro hc <;> (try simp only [push_cast] at hc)) | ((with_reducible first | refine eK hN ?_ | refine eQ hN ?_ | refine eG hN ?_)) | ((with_reducible first | refine cK hN ?_ | refine cQ hN ?_ | refine cG hN ?_); (simp (disch := omega) only [push_cast, ↓zz, seval]); (fail_if_success (with_reducible change False))) | omega | with_reducible intro _))
 refine z0i (z0j (fun (k : Nat) => k ≤ m.length) (fun k => m.length - k) (fun k => [(1, .int .i64 d), (5, z03 m), (6, .ref 0 1 0 (g k).length), (7, .int .i64 k)]) (fun k => [⟨2, 1, false, (g k).map z1e⟩]) (fun env _ => [z0r 2 (env 6)]) 0 (by simp) ?_ ?_)
 · (repeat' (first | (simp (disch := omega) only [push_cast, ↓zz, seval, g0]) | (with_reducible first | refine And.intro ?_ ?_ | (first | refine z01 ?_ ?_ | refine z00 ?_ ?_) <;> intro hc <;> (try simp only [push_cast] at hc)) | omega | with_reducible intro _))
 intro k hk
 have gk := gl k
 simp only [List.length_nil] at gk
 have hgp := z2b (g k)
 have hpm := z2b m
 rcases Nat.lt_or_ge k m.length with hkm | hkm
 · have hx := hbd _ (z0k hkm)
   have e1 := gs k hkm
   generalize hxe : nth m k = x at *
   have w1 : IntKind.i64.wrap (x.lo + d) = x.lo + d := IntWalk.i64_in _ (by omega)
   have w2 : IntKind.i64.wrap (x.hi + d) = x.hi + d := IntWalk.i64_in _ (by omega)
   refine W_T ?_
   (repeat' (first | (simp (disch := omega) only [push_cast, ↓zz, seval, hpm, hxe, w1, w2]) | (with_reducible first | refine And.intro ?_ ?_ | (first | refine z01 ?_ ?_ | refine z00 ?_ ?_) <;> intro hc <;> (try simp only [push_cast] at hc)) | omega | with_reducible intro _))
   all_goals
     refine ⟨k + 1, ?_⟩
     (repeat' (first | (simp (disch := omega) only [push_cast, ↓zz, seval, e1, z3l]) | (with_reducible first | refine And.intro ?_ ?_ | (first | refine z01 ?_ ?_ | refine z00 ?_ ?_) <;> intro hc <;> (try simp only [push_cast] at hc)) | omega | with_reducible intro _))
 · obtain rfl : k = m.length := by omega
   have hge : g m.length = m.map (z3l d) := by rw [ge]; simp
   rw [hge] at *
   have et : List.take m.length (m.map (z3l d)) = m.map (z3l d) := List.take_of_length_le (by simp)
   refine W_T ?_
   (repeat' (first | (simp (disch := omega) only [push_cast, ↓zz, seval, hpm, hgp, et]) | (with_reducible first | refine And.intro ?_ ?_ | (first | refine z01 ?_ ?_ | refine z00 ?_ ?_) <;> intro hc <;> (try simp only [push_cast] at hc)) | ((with_reducible first | refine eK hM ?_ | refine eQ hM ?_ | refine eG hM ?_)) | ((with_reducible first | refine cK hM ?_ | refine cQ hM ?_ | refine cG hM ?_); (simp (disch := omega) only [push_cast, ↓zz, seval, hpm, hgp, et]); (fail_if_success (with_reducible change False))) | omega | with_reducible intro _))
def inG (g : List Span) (k : Nat) : List Int := ((List.range k).filter fun (x : Nat) => hasI g (x : Int)).map fun (x : Nat) => (x : Int)
theorem zq5 (g : List Span) (k : Nat) : inG g (k + 1) = if hasI g (k : Int) then inG g k ++ [(k : Int)] else inG g k := by
 rw [inG, List.range_succ, List.filter_append, List.map_append]
 split
 · rename_i h; simp [inG, h]
 · rename_i h; simp [inG, h]
theorem y6k (g : List Span) (k : Nat) : (inG g k).length ≤ k := by
 have := List.length_filter_le (fun (x : Nat) => hasI g (x : Int)) (List.range k)
 simpa [inG] using this
theorem zx6 {g : List Span} {k : Nat} {v : Int} : v ∈ inG g k ↔ (0 ≤ v ∧ v < k) ∧ hasI g v = true := by
 simp only [inG, List.mem_map, List.mem_filter, List.mem_range]
 constructor
 · rintro ⟨t, ⟨h1, h2⟩, rfl⟩
   exact ⟨by omega, h2⟩
 · rintro ⟨h1, h2⟩
   exact ⟨v.toNat, ⟨by omega, by rw [show ((v.toNat : Nat) : Int) = v by omega]; exact h2⟩, by omega⟩
def ownL (ps : List Part) (a : Int) (g : List Span) (k : Nat) : List Int := ((inG g k).map (totV (atL ps a))).foldl putI []
def z8c (ps : List Part) (a : Int) (g : List Span) (k : Nat) : Bool := decide (inG g k ≠ []) && decide (atL ps a ≠ [])
def topI (i : Int) : Nat := if i = 1 then 256 else 0
def nowR (t : Term) (i : Int) : List (List Span) → Nat → List Int → Option (List Int)
 | [], _, now => some now
 | g :: gs, k, now => if z8c t.parts k g (topI i) then (zeq now (ownL t.parts k g (topI i))).bind (nowR t i gs (k + 1)) else nowR t i gs (k + 1) now
def z3z (t : Term) (i : Int) (gs : List (List Span)) : List Span × Bool :=
 if i = 2 ∧ t.parts.length = 1 then
   (z3i (z0d (nth gs (nth t.parts 0).at_.toNat)) t.sum, decide (0 ≤ (nth (z3i (z0d (nth gs (nth t.parts 0).at_.toNat)) t.sum) 0).lo) && decide ((nth (z3i (z0d (nth gs (nth t.parts 0).at_.toNat)) t.sum) ((z3i (z0d (nth gs (nth t.parts 0).at_.toNat)) t.sum).length - 1)).hi ≤ 1114111))
 else match nowR t i gs 0 [t.sum] with
   | none => ([], false)
   | some now => (z8j now, decide (0 ≤ nth now 0) && decide (nth now (now.length - 1) ≤ 1114111))
structure GOk (i : Int) (gs : List (List Span)) : Prop where
 len : gs.length ≤ 4
 short : ∀ g ∈ gs, g.length ≤ 64
 some : ∀ g ∈ gs, ∃ v, memL g v
 dom : ∀ g ∈ gs, ∀ v, memL g v → zen i v = true
theorem y1k {ps : List Part} {a : Int} {k : Nat} (h : k < ps.length) : atL (ps.take (k + 1)) a = if (nth ps k).at_ = a then atL (ps.take k) a ++ [nth ps k] else atL (ps.take k) a := by
 rw [take_at h, atL, atL, List.filter_append]
 split
 · rename_i h; simp [h]
 · rename_i h; simp [h]
theorem zgu : ∀ {l : List Int} {a b : Int}, z1d l → (∀ x ∈ l, a ≤ x ∧ x ≤ b) → a ≤ b + 1 → (l.length : Int) ≤ b - a + 1
 | [], a, b, _, _, h => by simp; omega
 | x :: l, a, b, hr, hm, h => by
   obtain ⟨r1, r2⟩ := List.pairwise_cons.1 hr
   have hx := hm x (by simp)
   have := zgu (a := x + 1) (b := b) r2 (fun y hy => by have := r1 y hy; have := hm y (by simp [hy]); omega) (by omega)
   push_cast [List.length_cons]
   omega
structure znv (now : List Int) : Prop where
 ris : z1d now
 bd : ∀ x ∈ now, -1114111 ≤ x ∧ x ≤ 1114111
 pos : 0 < now.length
theorem znv.len {now : List Int} (h : znv now) : now.length ≤ 2228223 := by
 have := zgu h.ris h.bd (by omega)
 omega
theorem zx7 {a b m : List Int} (ha : znv a) (hb : ∀ x ∈ b, 0 ≤ x) (hp : 0 < b.length) (h : zeq a b = some m) : znv m ∧ ∀ v, v ∈ m ↔ ∃ x ∈ a, ∃ y ∈ b, x + y = v := by
 rw [zeq] at h
 split at h
 · cases h
 · rename_i hn
   injection h with h
   subst h
   obtain ⟨f1, f2, f3⟩ := z89 (prs a b) [] (by simp [z1d])
   have hmem : ∀ v, v ∈ (prs a b).foldl putI [] ↔ ∃ x ∈ a, ∃ y ∈ b, x + y = v := fun v => by rw [f3, ← zer]; simp
   refine ⟨⟨f1, fun v hv => ?_, ?_⟩, hmem⟩
   · obtain ⟨x, hx, y, hy, rfl⟩ := (hmem v).1 hv
     have h1 := ha.bd x hx
     have h2 := hb y hy
     have h3 : ¬ 1114111 < x + y := fun h => hn (List.any_eq_true.2 ⟨x + y, zer.2 ⟨x, hx, y, hy, rfl⟩, by simpa [bigB] using h⟩)
     omega
   · refine List.length_pos_iff.2 fun h0 => ?_
     have h1 := (hmem (nth a 0 + nth b 0)).2 ⟨_, z0k ha.pos, _, z0k hp, rfl⟩
     rw [h0] at h1
     cases h1
theorem zx8 {ps : List Part} {a : Int} {g : List Span} {k : Nat} (hk : k ≤ 256) (hl : ps.length ≤ 4) (hb : ∀ p ∈ ps, z2o p = true) :
   z1d (ownL ps a g k) ∧ (ownL ps a g k).length ≤ 256 ∧ (∀ v, v ∈ ownL ps a g k ↔ ∃ x ∈ inG g k, totV (atL ps a) x = v) ∧ ∀ v ∈ ownL ps a g k, 0 ≤ v ∧ v ≤ 264241152 := by
 obtain ⟨f1, f2, f3⟩ := z89 ((inG g k).map (totV (atL ps a))) [] (by simp [z1d])
 have hlen := y6k g k
 simp only [List.length_nil, List.length_map] at f2
 have hmem : ∀ v, v ∈ ownL ps a g k ↔ ∃ x ∈ inG g k, totV (atL ps a) x = v := fun v => by rw [ownL, f3]; simp
 refine ⟨f1, by rw [ownL]; omega, hmem, fun v hv => ?_⟩
 obtain ⟨x, hx, rfl⟩ := (hmem v).1 hv
 have hx2 := (zx6.1 hx).1
 have hal : (atL ps a).length ≤ 4 := Nat.le_trans (List.length_filter_le _ _) hl
 have := z7i (x := x) (by omega) (l := atL ps a) (fun p hp => hb p (List.mem_filter.1 hp).1)
 have h2 : ((atL ps a).length : Int) * 66060288 ≤ 4 * 66060288 := Int.mul_le_mul_of_nonneg_right (by omega) (by omega)
 omega
theorem zx9 {ps : List Part} {a : Int} {g : List Span} {k : Nat} (hs : z8c ps a g k = true) : 0 < (ownL ps a g k).length := by
 simp only [z8c, Bool.and_eq_true, decide_eq_true_eq] at hs
 obtain ⟨f1, f2, f3⟩ := z89 ((inG g k).map (totV (atL ps a))) [] (by simp [z1d])
 obtain ⟨x, hx⟩ := List.exists_mem_of_ne_nil _ hs.1
 exact List.length_pos_of_mem ((f3 _).2 (.inr (List.mem_map_of_mem hx)))
theorem y1l {ps : List Part} {a : Int} {g : List Span} {k : Nat} : ownL ps a g (k + 1) = if hasI g (k : Int) then putI (ownL ps a g k) (totV (atL ps a) k) else ownL ps a g k := by
 rw [ownL, zq5]
 split
 · rw [List.map_append, List.foldl_append]; rfl
 · rfl
theorem zxa {ps : List Part} {a : Int} {g : List Span} {k : Nat} : z8c ps a g (k + 1) = if hasI g (k : Int) then decide (atL ps a ≠ []) else z8c ps a g k := by
 rw [z8c, zq5]
 split
 · simp
 · rfl
theorem znw (t : Term) (i o : Int) (gs : List (List Span)) (hr : z4e t i o gs.length = true) (hG : GOk i gs) :
   PC Try.prog 72 [z1m t, .int .i64 i, z0b gs] (.tup [z03 (z3z t i gs).1, .bool (z3z t i gs).2]) := by
 have hP := z06 gs
 obtain ⟨hn, hp⟩ := z4c hr
 have hnum := hn
 simp only [z1p, Bool.and_eq_true, decide_eq_true_eq] at hnum
 have hl4 := hnum.2.2
 have hsm := z44 hnum.1.1.2
 have hrp : ∀ p ∈ t.parts, z2t p gs.length = true := fun p h => List.all_eq_true.1 hp p h
 have hbp : ∀ p ∈ t.parts, z2o p = true := fun p h => by have := hrp p h; simp only [z2t, Bool.and_eq_true] at this; exact this.2
 have hgl := hG.len
 refine z0t zhx ?_
 unfold z9q
 by_cases hone : i = 2 ∧ t.parts.length = 1
 · have hpp := hrp _ (z0k (l := t.parts) (i := 0) (by omega))
   have hpa := z08 hpp
   have hI : z3z t i gs = _ := if_pos hone
   generalize hpe : nth t.parts 0 = p at *
   obtain ⟨a, ha⟩ : ∃ a : Nat, p.at_ = a := ⟨p.at_.toNat, by omega⟩
   have hag : a < gs.length := by omega
   rw [ha, Int.toNat_natCast] at hI
   have hgm := z0k hag
   have hN := z83 (nth gs a) (by have := hG.short _ hgm; omega)
   have hM := zss (z0d (nth gs a)) t.sum (by have := hG.short _ hgm; have := z37 (nth gs a); omega)
   have hpos : 0 < (z3i (z0d (nth gs a)) t.sum).length := by
     obtain ⟨v, hv⟩ := hG.some _ hgm
     have hv2 := zcd (hG.dom _ hgm v hv)
     have h1 : memL (z0d (nth gs a)) v := ((z0c (nth gs a)).2 v).2 ⟨hv, by omega⟩
     have h2 : memL (z3i (z0d (nth gs a)) t.sum) (v + t.sum) := (ziq (by omega)).2 ⟨⟨by rw [show v + t.sum - t.sum = v by omega]; exact h1, by omega⟩, by omega⟩
     exact List.length_pos_iff.2 (z90 h2)
   have hle : (z3i (z0d (nth gs a)) t.sum).length ≤ 2147483649 := by
     rw [z3i, if_neg (by omega)]; exact z6r _
   rw [hI]
   generalize z3i (z0d (nth gs a)) t.sum = l at *
   obtain ⟨m, hm⟩ : ∃ m, l.length = m + 1 := ⟨l.length - 1, by omega⟩
   have hw : IntKind.i64.wrap (m : Int) = m := IntWalk.i64_in _ (by omega)
   obtain ⟨h2, h1⟩ := hone
   subst h2
   clear hI
   rw [hm, Nat.add_sub_cancel]
   (repeat' (first | (simp (disch := omega) only [push_cast, ↓zz, seval, hP, hpe, ha, h1, hm, hw]) | (with_reducible first | refine And.intro ?_ ?_ | (first | refine z01 ?_ ?_ | refine z00 ?_ ?_) <;> intro hc <;> (try simp only [push_cast] at hc)) | ((with_reducible first | refine eK hN ?_ | refine eQ hN ?_ | refine eG hN ?_)) | ((with_reducible first | refine eK hM ?_ | refine eQ hM ?_ | refine eG hM ?_)) | ((with_reducible first | refine cK hN ?_ | refine cQ hN ?_ | refine cG hN ?_); (simp (disch := omega) only [push_cast, ↓zz, seval, hP, hpe, ha, h1, hm, hw]); (fail_if_success (with_reducible change False))) | ((with_reducible first | refine cK hM ?_ | refine cQ hM ?_ | refine cG hM ?_); (simp (disch := omega) only [push_cast, ↓zz, seval, hP, hpe, ha, h1, hm, hw]); (fail_if_success (with_reducible change False))) | omega | with_reducible intro _))
   all_goals first
     | (rw [decide_eq_true (p := 0 ≤ (nth l 0).lo) (by assumption), Bool.true_and]; (repeat' (first | (simp (disch := omega) only [push_cast, ↓zz, seval, z1f]) | omega | (with_reducible refine And.intro ?_ ?_))); done)
     | (rw [decide_eq_false (p := 0 ≤ (nth l 0).lo) (by assumption), Bool.false_and]; (repeat' (first | (simp (disch := omega) only [push_cast, ↓zz, seval, z1f]) | omega | (with_reducible refine And.intro ?_ ?_))); done)
     | trace_state
 have hI : z3z t i gs = match nowR t i gs 0 [t.sum] with
   | none => ([], false)
   | some now => (z8j now, decide (0 ≤ nth now 0) && decide (nth now (now.length - 1) ≤ 1114111)) := if_neg hone
 have hst : znv [t.sum] := ⟨by simp [z1d], by simp; omega, by simp⟩
 (repeat' (first | (simp (disch := omega) only [push_cast, ↓zz, seval, hP]) | (with_reducible first | refine And.intro ?_ ?_ | (first | refine z01 ?_ ?_ | refine z00 ?_ ?_) <;> intro hc <;> (try simp only [push_cast] at hc)) | omega | with_reducible intro _))
 all_goals first
   | (exfalso; omega)
   | skip
 all_goals
   refine z0i (z0j (fun (s : Nat × List Int) => s.1 ≤ gs.length ∧ znv s.2 ∧ nowR t i gs 0 [t.sum] = nowR t i (gs.drop s.1) s.1 s.2) (fun s => gs.length - s.1)
     (fun s => [(1, .int .i64 i), (2, z0b gs), (3, .ptr 0 1 0 0), (9, z4l s.2), (10, .int .i64 s.1)]) (fun s => [⟨6, 1, true, [z1m t]⟩]) (fun env _ => [z0r 1 (env 3)]) (0, [t.sum]) ⟨by simp, hst, rfl⟩ ?_ ?_)
   · (repeat' (first | (simp (disch := omega) only [push_cast, ↓zz, seval, hP]) | (with_reducible first | refine And.intro ?_ ?_ | (first | refine z01 ?_ ?_ | refine z00 ?_ ?_) <;> intro hc <;> (try simp only [push_cast] at hc)) | omega | with_reducible intro _))
   rintro ⟨k, now⟩ ⟨k1, kn, k2⟩
   simp only at k1 kn k2
   have hnl := kn.len
   have pN : z0l (now.map (AV.int .i64)) = true := z4h .i64 now
   rcases Nat.lt_or_ge k gs.length with hk | hk
   · rw [drop_at hk, nowR] at k2
     have hgs := hG.short _ (z0k hk)
     generalize hge : nth gs k = g at *
     refine W_T ?_
     (repeat' (first | (simp (disch := omega) only [push_cast, ↓zz, seval, hP, hge]) | (with_reducible first | refine And.intro ?_ ?_ | (first | refine z01 ?_ ?_ | refine z00 ?_ ?_) <;> intro hc <;> (try simp only [push_cast] at hc)) | omega | with_reducible intro _))
     refine z0i (z0j (fun (x : Nat) => x ≤ topI i) (fun x => topI i - x)
       (fun x => [(1, .int .i64 i), (2, z0b gs), (3, .ptr 0 1 0 0), (9, z4l now), (10, .int .i64 k), (11, .ref 1 1 0 (ownL t.parts k g x).length), (12, .bool (z8c t.parts k g x)), (13, .int .i64 x)])
       (fun x => [⟨6, 1, true, [z1m t]⟩, ⟨1, 1, false, (ownL t.parts k g x).map (AV.int .i64)⟩]) (fun env _ => [z0r 1 (env 3), z0r 1 (env 11)]) 0 (by simp) ?_ ?_)
     · have e0 : ownL t.parts k g 0 = [] := rfl
       have s0 : z8c t.parts k g 0 = false := rfl
       (repeat' (first | (simp (disch := omega) only [push_cast, ↓zz, seval, hP, pN, e0, s0]) | (with_reducible first | refine And.intro ?_ ?_ | (first | refine z01 ?_ ?_ | refine z00 ?_ ?_) <;> intro hc <;> (try simp only [push_cast] at hc)) | omega | with_reducible intro _))
     intro x hx
     rcases Nat.lt_or_ge x (topI i) with hxt | hxt
     · have hi : i = 1 ∧ x < 256 := by
         unfold topI at hxt
         split at hxt
         · exact ⟨by assumption, hxt⟩
         · omega
       have hie : (i = 1) = True := eq_true hi.1
       have hH := ze5 g x (by omega)
       have hos := y1l (ps := t.parts) (a := k) (g := g) (k := x)
       have hss := zxa (ps := t.parts) (a := k) (g := g) (k := x)
       obtain ⟨o1, o2, _, o4⟩ := zx8 (a := (k : Int)) (g := g) (k := x) (by omega) hl4 hbp
       have hsa : z8c t.parts k g x = true → decide (atL t.parts k ≠ []) = true := fun h => by rw [z8c, Bool.and_eq_true] at h; exact h.2
       generalize ownL t.parts k g x = own at *
       generalize z8c t.parts k g x = sm at *
       cases hh : hasI g (x : Int) with
       | false =>
         rw [hh] at hH
         rw [hh, if_neg (by simp)] at hos hss
         refine W_T ?_
         (repeat' (first | (simp (disch := omega) only [push_cast, ↓zz, seval, hP, hge, hie]) | (with_reducible first | refine And.intro ?_ ?_ | (first | refine z01 ?_ ?_ | refine z00 ?_ ?_) <;> intro hc <;> (try simp only [push_cast] at hc)) | ((with_reducible first | refine eK hH ?_ | refine eQ hH ?_ | refine eG hH ?_)) | ((with_reducible first | refine cK hH ?_ | refine cQ hH ?_ | refine cG hH ?_); (simp (disch := omega) only [push_cast, ↓zz, seval, hP, hge, hie]); (fail_if_success (with_reducible change False))) | omega | with_reducible intro _))
         all_goals
           refine ⟨x + 1, ?_⟩
           (repeat' (first | (simp (disch := omega) only [push_cast, ↓zz, seval, hos, hss]) | (with_reducible first | refine And.intro ?_ ?_ | (first | refine z01 ?_ ?_ | refine z00 ?_ ?_) <;> intro hc <;> (try simp only [push_cast] at hc)) | omega | with_reducible intro _))
       | true =>
         rw [hh] at hH
         rw [hh, if_pos rfl] at hos hss
         refine W_T ?_
         (repeat' (first | (simp (disch := omega) only [push_cast, ↓zz, seval, hP, hge, hie]) | (with_reducible first | refine And.intro ?_ ?_ | (first | refine z01 ?_ ?_ | refine z00 ?_ ?_) <;> intro hc <;> (try simp only [push_cast] at hc)) | ((with_reducible first | refine eK hH ?_ | refine eQ hH ?_ | refine eG hH ?_)) | ((with_reducible first | refine cK hH ?_ | refine cQ hH ?_ | refine cG hH ?_); (simp (disch := omega) only [push_cast, ↓zz, seval, hP, hge, hie]); (fail_if_success (with_reducible change False))) | omega | with_reducible intro _))
         all_goals
           refine z0i (z0j (fun (j : Nat) => j ≤ t.parts.length) (fun j => t.parts.length - j)
             (fun j => [(1, .int .i64 i), (2, z0b gs), (3, .ptr 0 1 0 0), (9, z4l now), (10, .int .i64 k), (11, .ref 1 1 0 own.length), (12, .bool (sm || decide (atL (t.parts.take j) k ≠ []))), (13, .int .i64 x), (14, .int .i64 (totV (atL (t.parts.take j) k) x)), (15, .int .i64 j)])
             (fun j => [⟨6, 1, true, [z1m t]⟩, ⟨1, 1, false, own.map (AV.int .i64)⟩]) (fun env _ => [z0r 1 (env 3), z0r 1 (env 11)]) 0 (by simp) ?_ ?_)
           · have e0 : atL [] (k : Int) = [] := rfl
             (repeat' (first | (simp (disch := omega) only [push_cast, ↓zz, seval, hP, pN, e0, zir, ne_eq, not_true_eq_false, decide_false, Bool.or_false]) | (with_reducible first | refine And.intro ?_ ?_ | (first | refine z01 ?_ ?_ | refine z00 ?_ ?_) <;> intro hc <;> (try simp only [push_cast] at hc)) | omega | with_reducible intro _))
           intro j hj
           have hbj := z7i (x := (x : Int)) (by omega) (l := atL (t.parts.take j) k) (fun p hp => hbp p (List.mem_of_mem_take (List.mem_filter.1 hp).1))
           have hlj : (atL (t.parts.take j) k).length ≤ 4 := Nat.le_trans (List.length_filter_le _ _) (by simp; omega)
           have hmj : ((atL (t.parts.take j) k).length : Int) * 66060288 ≤ 4 * 66060288 := Int.mul_le_mul_of_nonneg_right (by omega) (by omega)
           rcases Nat.lt_or_ge j t.parts.length with hjp | hjp
           · have hat := y1k (a := (k : Int)) hjp
             have hpb := hbp _ (z0k hjp)
             have hV := zn1 (nth t.parts j) x
             have hvs := z3h hpb (x := (x : Int)) (by omega)
             rw [zn0 hpb (by omega)] at hV
             have hpp := z63 t.parts
             generalize hpe : nth t.parts j = p at *
             generalize atL (t.parts.take j) k = A at *
             have hT := zlj A p x
             have hw : IntKind.i64.wrap (totV A x + valP p x) = totV A x + valP p x := IntWalk.i64_in _ (by omega)
             by_cases ha : p.at_ = k
             · rw [if_pos ha] at hat
               have hne : decide (¬ (A ++ [p] = [])) = true := by simp
               refine W_T ?_
               (repeat' (first | (simp (disch := omega) only [push_cast, ↓zz, seval, hP, hpp, hpe, ha, hw]) | (with_reducible first | refine And.intro ?_ ?_ | (first | refine z01 ?_ ?_ | refine z00 ?_ ?_) <;> intro hc <;> (try simp only [push_cast] at hc)) | ((with_reducible first | refine eK hV ?_ | refine eQ hV ?_ | refine eG hV ?_)) | ((with_reducible first | refine cK hV ?_ | refine cQ hV ?_ | refine cG hV ?_); (simp (disch := omega) only [push_cast, ↓zz, seval, hP, hpp, hpe, ha, hw]); (fail_if_success (with_reducible change False))) | omega | with_reducible intro _))
               all_goals
                 refine ⟨j + 1, ?_⟩
                 (repeat' (first | (simp (disch := omega) only [push_cast, ↓zz, seval, hat, hT, hne, Bool.or_true]) | (with_reducible first | refine And.intro ?_ ?_ | (first | refine z01 ?_ ?_ | refine z00 ?_ ?_) <;> intro hc <;> (try simp only [push_cast] at hc)) | omega | with_reducible intro _))
             · rw [if_neg ha] at hat
               refine W_T ?_
               (repeat' (first | (simp (disch := omega) only [push_cast, ↓zz, seval, hP, hpp, hpe]) | (with_reducible first | refine And.intro ?_ ?_ | (first | refine z01 ?_ ?_ | refine z00 ?_ ?_) <;> intro hc <;> (try simp only [push_cast] at hc)) | omega | with_reducible intro _))
               all_goals
                 refine ⟨j + 1, ?_⟩
                 (repeat' (first | (simp (disch := omega) only [push_cast, ↓zz, seval, hat]) | (with_reducible first | refine And.intro ?_ ?_ | (first | refine z01 ?_ ?_ | refine z00 ?_ ?_) <;> intro hc <;> (try simp only [push_cast] at hc)) | omega | with_reducible intro _))
           · have hjt : t.parts.take j = t.parts := List.take_of_length_le hjp
             rw [hjt] at *
             have hsm2 : (sm || decide (atL t.parts k ≠ [])) = z8c t.parts k g (x + 1) := by
               rw [hss]
               cases sm with
               | false => rfl
               | true => rw [hsa rfl]; rfl
             refine W_T ?_
             (repeat' (first | (simp (disch := omega) only [push_cast, ↓zz, seval, hP]) | (with_reducible first | refine And.intro ?_ ?_ | (first | refine z01 ?_ ?_ | refine z00 ?_ ?_) <;> intro hc <;> (try simp only [push_cast] at hc)) | omega | with_reducible intro _))
             (refine zmz [1] (zlp 1 own (totV (atL t.parts k) x) o1 (by omega)) (by decide) (by simp) (by (simp (disch := omega) only [push_cast, ↓zz, seval])) (by (simp (disch := omega) only [push_cast, ↓zz, seval])) (by (simp (disch := omega) only [push_cast, ↓zz, seval])) (by (simp (disch := omega) only [push_cast, ↓zz, seval, List.mem_cons, List.not_mem_nil, or_false, forall_eq_or_imp, forall_eq, List.forall_mem_nil])) ?_)
             rintro y' H' ⟨v', rfl, rfl⟩
             refine ⟨_, rfl, by simp, ?_⟩
             (repeat' (first | (simp (disch := omega) only [push_cast, ↓zz, seval]) | (with_reducible first | refine And.intro ?_ ?_ | (first | refine z01 ?_ ?_ | refine z00 ?_ ?_) <;> intro hc <;> (try simp only [push_cast] at hc)) | omega | with_reducible intro _))
             refine ⟨x + 1, ?_⟩
             (repeat' (first | (simp (disch := omega) only [push_cast, ↓zz, seval, hos, hss, hsm2]) | (with_reducible first | refine And.intro ?_ ?_ | (first | refine z01 ?_ ?_ | refine z00 ?_ ?_) <;> intro hc <;> (try simp only [push_cast] at hc)) | omega | with_reducible intro _))
     · have hxe : x = topI i := by omega
       subst hxe
       have ht : ((i = 1) = True ∧ ((topI i : Int) < 256) = False) ∨ ((i = 1) = False ∧ ((topI i : Int) < 256) = True) := by
         unfold topI
         split
         · exact .inl ⟨eq_true (by assumption), by simp⟩
         · exact .inr ⟨eq_false (by assumption), by simp⟩
       obtain ⟨o1, o2, _, o4⟩ := zx8 (a := (k : Int)) (g := g) (k := topI i) (by unfold topI; split <;> omega) hl4 hbp
       have op := zx9 (ps := t.parts) (a := k) (g := g) (k := topI i)
       generalize ownL t.parts k g (topI i) = own at *
       generalize z8c t.parts k g (topI i) = sm at *
       generalize topI i = n at *
       have hS := zsr now own (by omega) (by omega) (fun x hx => by have := kn.bd x hx; omega) (fun x hx => by have := o4 x hx; omega)
       have pO : z0l (own.map (AV.int .i64)) = true := z4h .i64 own
       have eO : List.take own.length (own.map (AV.int .i64)) = own.map (AV.int .i64) := List.take_of_length_le (by simp)
       refine W_T ?_
       cases sm with
       | false =>
         rw [if_neg (by simp)] at k2
         rcases ht with ⟨hi, hn2⟩ | ⟨hi, hn2⟩
         all_goals
           (repeat' (first | (simp (disch := omega) only [push_cast, ↓zz, seval, hP, hge, hi, hn2]) | (with_reducible first | refine And.intro ?_ ?_ | (first | refine z01 ?_ ?_ | refine z00 ?_ ?_) <;> intro hc <;> (try simp only [push_cast] at hc)) | omega | with_reducible intro _))
         all_goals
           refine ⟨(k + 1, now), ⟨rfl, by push_cast⟩, ⟨by simp only; omega, kn, k2⟩, by simp only; omega⟩
       | true =>
         rw [if_pos rfl] at k2
         have hop := op rfl
         cases hv : zeq now own with
         | none =>
           rw [hv] at hS k2
           rw [hI, k2]
           rcases ht with ⟨hi, hn2⟩ | ⟨hi, hn2⟩
           all_goals
             (repeat' (first | (simp (disch := omega) only [push_cast, ↓zz, seval, hP, hge, hi, hn2, pN, pO, eO, Option.bind_none]) | (with_reducible first | refine And.intro ?_ ?_ | (first | refine z01 ?_ ?_ | refine z00 ?_ ?_) <;> intro hc <;> (try simp only [push_cast] at hc)) | ((with_reducible first | refine eK hS ?_ | refine eQ hS ?_ | refine eG hS ?_)) | ((with_reducible first | refine cK hS ?_ | refine cQ hS ?_ | refine cG hS ?_); (simp (disch := omega) only [push_cast, ↓zz, seval, hP, hge, hi, hn2, pN, pO, eO, Option.bind_none]); (fail_if_success (with_reducible change False))) | omega | with_reducible intro _))
           all_goals (repeat' (first | (simp (disch := omega) only [push_cast, ↓zz, seval, z1f]) | omega | (with_reducible refine And.intro ?_ ?_)))
         | some m =>
           rw [hv, Option.bind_some] at k2
           rw [hv] at hS
           obtain ⟨m1, _⟩ := zx7 kn (fun y hy => (o4 y hy).1) hop hv
           have pM : z0l (m.map (AV.int .i64)) = true := z4h .i64 m
           simp only [optL, Option.getD_some, Option.isSome_some] at hS
           rcases ht with ⟨hi, hn2⟩ | ⟨hi, hn2⟩
           all_goals
             (repeat' (first | (simp (disch := omega) only [push_cast, ↓zz, seval, hP, hge, hi, hn2, pN, pO, eO, pM]) | (with_reducible first | refine And.intro ?_ ?_ | (first | refine z01 ?_ ?_ | refine z00 ?_ ?_) <;> intro hc <;> (try simp only [push_cast] at hc)) | ((with_reducible first | refine eK hS ?_ | refine eQ hS ?_ | refine eG hS ?_)) | ((with_reducible first | refine cK hS ?_ | refine cQ hS ?_ | refine cG hS ?_); (simp (disch := omega) only [push_cast, ↓zz, seval, hP, hge, hi, hn2, pN, pO, eO, pM]); (fail_if_success (with_reducible change False))) | omega | with_reducible intro _))
           all_goals
             refine ⟨(k + 1, m), ⟨rfl, by push_cast⟩, ⟨by simp only; omega, m1, k2⟩, by simp only; omega⟩
   · rw [List.drop_of_length_le hk, nowR] at k2
     rw [hI, k2]
     have hS := znt now (by omega) (fun x hx => by have := kn.bd x hx; omega)
     obtain ⟨m, hm⟩ : ∃ m, now.length = m + 1 := ⟨now.length - 1, by have := kn.pos; omega⟩
     have hw : IntKind.i64.wrap (m : Int) = m := IntWalk.i64_in _ (by omega)
     simp only
     rw [hm, Nat.add_sub_cancel]
     refine W_T ?_
     (repeat' (first | (simp (disch := omega) only [push_cast, ↓zz, seval, hP, pN, hm, hw]) | (with_reducible first | refine And.intro ?_ ?_ | (first | refine z01 ?_ ?_ | refine z00 ?_ ?_) <;> intro hc <;> (try simp only [push_cast] at hc)) | ((with_reducible first | refine eK hS ?_ | refine eQ hS ?_ | refine eG hS ?_)) | ((with_reducible first | refine cK hS ?_ | refine cQ hS ?_ | refine cG hS ?_); (simp (disch := omega) only [push_cast, ↓zz, seval, hP, pN, hm, hw]); (fail_if_success (with_reducible change False))) | omega | with_reducible intro _))
     all_goals first
       | (rw [decide_eq_true (p := 0 ≤ nth now 0) (by assumption), Bool.true_and]; (repeat' (first | (simp (disch := omega) only [push_cast, ↓zz, seval, z1f]) | omega | (with_reducible refine And.intro ?_ ?_))); done)
       | (rw [decide_eq_false (p := 0 ≤ nth now 0) (by assumption), Bool.false_and]; (repeat' (first | (simp (disch := omega) only [push_cast, ↓zz, seval, z1f]) | omega | (with_reducible refine And.intro ?_ ?_))); done)
       | trace_state
theorem zlq {l : List Int} (h : z1d l) {i j : Nat} (hij : i ≤ j) (hj : j < l.length) : nth l i ≤ nth l j := by
 rcases Nat.lt_or_ge i j with hlt | hge
 · have := List.pairwise_iff_getElem.1 h i j (by omega) hj hlt
   simp only [nth, List.getD_eq_getElem?_getD, List.getElem?_eq_getElem hj, List.getElem?_eq_getElem (show i < l.length by omega), Option.getD_some]
   omega
 · rw [show i = j by omega]; exact Int.le_refl _
theorem y2g {α : Type} [Inhabited α] {l : List α} {x : α} (h : x ∈ l) : ∃ i, i < l.length ∧ nth l i = x := by
 obtain ⟨i, hi, rfl⟩ := List.getElem_of_mem h
 exact ⟨i, hi, by simp [nth, hi]⟩
theorem zst {l : List Int} (h : z1d l) (hp : 0 < l.length) {m M : Int} : (m ≤ nth l 0 ∧ nth l (l.length - 1) ≤ M) ↔ ∀ v ∈ l, m ≤ v ∧ v ≤ M := by
 constructor
 · rintro ⟨h1, h2⟩ v hv
   obtain ⟨i, hi, rfl⟩ := y2g hv
   have a1 := zlq h (Nat.zero_le i) hi
   have a2 := zlq h (show i ≤ l.length - 1 by omega) (by omega)
   omega
 · intro ha
   have a1 := ha _ (z0k hp)
   have a2 := ha _ (z0k (show l.length - 1 < l.length by omega))
   exact ⟨a1.1, a2.2⟩
theorem zq6 {l : List Span} (h : Plain l) {i j : Nat} (hij : i ≤ j) (hj : j < l.length) : (nth l i).lo ≤ (nth l j).lo ∧ (nth l i).hi ≤ (nth l j).hi := by
 rcases Nat.lt_or_ge i j with hlt | hge
 · have h1 := List.pairwise_iff_getElem.1 h.2 i j (by omega) hj hlt
   have h2 := h.1 _ (z0k hj)
   have h3 := h.1 _ (z0k (show i < l.length by omega))
   simp only [nth, List.getD_eq_getElem?_getD, List.getElem?_eq_getElem hj, List.getElem?_eq_getElem (show i < l.length by omega), Option.getD_some] at h2 h3 ⊢
   omega
 · rw [show i = j by omega]; exact ⟨Int.le_refl _, Int.le_refl _⟩
theorem zxb {l : List Span} (h : Plain l) (hp : 0 < l.length) {m M : Int} : (m ≤ (nth l 0).lo ∧ (nth l (l.length - 1)).hi ≤ M) ↔ ∀ v, memL l v → m ≤ v ∧ v ≤ M := by
 constructor
 · rintro ⟨h1, h2⟩ v ⟨s, hs, hv⟩
   obtain ⟨i, hi, rfl⟩ := y2g hs
   have a1 := zq6 h (Nat.zero_le i) hi
   have a2 := zq6 h (show i ≤ l.length - 1 by omega) (by omega)
   omega
 · intro ha
   have l1 := h.1 _ (z0k hp)
   have l2 := h.1 _ (z0k (show l.length - 1 < l.length by omega))
   have a1 := ha (nth l 0).lo ⟨_, z0k hp, Int.le_refl _, l1⟩
   have a2 := ha (nth l (l.length - 1)).hi ⟨_, z0k (by omega), l2, Int.le_refl _⟩
   exact ⟨a1.1, a2.2⟩
theorem zgv : ∀ (l : List Int) (out : List Span), z1d l → Plain out → (∀ x ∈ l, zn9 out x) → Plain (l.foldl z5q out) ∧ ∀ v, memL (l.foldl z5q out) v ↔ memL out v ∨ v ∈ l
 | [], out, _, h, _ => ⟨h, fun v => by simp⟩
 | x :: l, out, hr, h, ha => by
   obtain ⟨r1, r2⟩ := List.pairwise_cons.1 hr
   obtain ⟨p1, p2, p3⟩ := zge h (x := ⟨x, x⟩) (Int.le_refl _) (ha x (by simp))
   obtain ⟨i1, i2⟩ := zgv l (z5q out x) r2 p1 fun y hy => zgf p2 (by have := r1 y hy; simp only; omega)
   refine ⟨i1, fun v => ?_⟩
   rw [List.foldl_cons, i2, List.mem_cons]
   have := p3 v
   simp only at this
   rw [z5q, this]
   constructor
   · rintro ((h | h) | h)
     · exact .inl h
     · exact .inr (.inl (by omega))
     · exact .inr (.inr h)
   · rintro (h | rfl | h)
     · exact .inl (.inl h)
     · exact .inl (.inr ⟨Int.le_refl _, Int.le_refl _⟩)
     · exact .inr h
theorem znx {l : List Int} (h : z1d l) : Plain (z8j l) ∧ ∀ v, memL (z8j l) v ↔ v ∈ l := by
 obtain ⟨h1, h2⟩ := zgv l [] h ⟨by simp, by simp⟩ (fun x _ s hs => by cases hs)
 exact ⟨h1, fun v => by rw [z8j, h2]; simp [memL]⟩
def begW (l : List Part) (k : Nat) (w : List Int) : Int := zb1 l ((List.range k).map fun (a : Nat) => (a : Int)) w
theorem z6g (l : List Part) (k : Nat) (w : List Int) : begW l (k + 1) w = begW l k w + totV (atL l k) (nth w k) := by
 simp [begW, zb1, List.range_succ, List.map_append, List.sum_append]
theorem zxc (l : List Part) (w : List Int) : begW l 0 w = 0 := rfl
theorem zq7 {l : List Part} {n : Nat} {w : List Int} (h : ∀ p ∈ l, 0 ≤ p.at_ ∧ p.at_ < n) : begW l n w = totW w l := by
 refine z88 w l _ ?_ fun p hp => ?_
 · exact List.pairwise_map.2 (List.nodup_range.imp fun h e => h (by omega))
 · have := h p hp
   exact List.mem_map.2 ⟨p.at_.toNat, by simp; omega, by omega⟩
theorem zq8 {l : List Part} {w : List Int} {k : Nat} {x : Int} (hk : k < w.length) : ∀ {j : Nat}, j ≤ k → begW l j (w.set k x) = begW l j w
 | 0, _ => rfl
 | j + 1, h => by
   rw [z6g, z6g, zq8 hk (j := j) (by omega), zb2 hk, if_neg (by omega)]
theorem y6l {l : List Part} {x : Int} (hx : 0 ≤ x ∧ x ≤ 2097151) (hb : ∀ p ∈ l, z2o p = true) (a : Int) : 0 ≤ totV (atL l a) x := (z7i hx (l := atL l a) fun p hp => hb p (List.mem_filter.1 hp).1).1
theorem zlr {l : List Part} {w : List Int} {k n : Nat} (hb : ∀ p ∈ l, z2o p = true) (hw : ∀ a, a < n → 0 ≤ nth w a ∧ nth w a ≤ 1114111) : ∀ d, k + d ≤ n → begW l k w ≤ begW l (k + d) w
 | 0, _ => Int.le_refl _
 | d + 1, h => by
   have h1 := zlr hb hw d (k := k) (by omega)
   have h2 := hw (k + d) (by omega)
   have h3 := y6l (x := nth w (k + d)) (by omega) hb ((k + d : Nat) : Int)
   have h4 : begW l (k + (d + 1)) w = begW l (k + d) w + totV (atL l ((k + d : Nat) : Int)) (nth w (k + d)) := z6g l (k + d) w
   omega
theorem zae {g : List Span} {v : Int} {i : Int} (hd : ∀ v, memL g v → zen i v = true) : memL (symI g) v ↔ memL g v := by
 rw [(z7h g).2 v]
 constructor
 · exact fun h => h.2
 · exact fun h => ⟨zcd (hd v h), h⟩
structure TOk (t : Term) (i : Int) (gs : List (List Span)) : Prop where
 parts : ∀ p ∈ t.parts, z2t p gs.length = true
 four : t.parts.length ≤ 4
 sm : -1114111 ≤ t.sum ∧ t.sum ≤ 1114111
 sort : i = 1 ∨ (i = 2 ∧ t.parts.length ≤ 1 ∧ ∀ p ∈ t.parts, z4z p = true)
theorem TOk.bits {t : Term} {i : Int} {gs : List (List Span)} (h : TOk t i gs) : ∀ p ∈ t.parts, z2o p = true := fun p hp => by
 have := h.parts p hp
 simp only [z2t, Bool.and_eq_true] at this
 exact this.2
theorem TOk.at {t : Term} {i : Int} {gs : List (List Span)} (h : TOk t i gs) : ∀ p ∈ t.parts, 0 ≤ p.at_ ∧ p.at_ < gs.length := fun p hp => z08 (h.parts p hp)
theorem y2h {t : Term} {i o : Int} {gs : List (List Span)} (hr : z4e t i o gs.length = true) : TOk t i gs := by
 obtain ⟨hn, hp⟩ := z4c hr
 simp only [z1p, Bool.and_eq_true, decide_eq_true_eq] at hn
 refine ⟨fun p h => List.all_eq_true.1 hp p h, hn.2.2, z44 hn.1.1.2, ?_⟩
 simp only [z4e, z2p, zkw, Bool.and_eq_true, Bool.or_eq_true, decide_eq_true_eq, List.all_eq_true] at hr
 obtain ⟨⟨⟨⟨⟨h1, _⟩, _⟩, h2⟩, h3⟩, _⟩ := hr
 rcases h1 with h1 | h1
 · exact .inl h1
 · refine .inr ⟨h1, ?_, fun p hp => ?_⟩
   · rcases h3 with h3 | h3
     · exact absurd h1 h3
     · exact h3
   · rcases (h2 p hp).2 with h | h
     · exact absurd h1 h
     · exact h
def PS (t : Term) (gs : List (List Span)) (k : Nat) (now : List Int) : Prop := znv now ∧ ∀ v, v ∈ now ↔ ∃ w, Win (gs.map symI) w ∧ t.sum + begW t.parts k w = v
theorem zxd {gs : List (List Span)} {w : List Int} (h : Win (gs.map symI) w) : w.length = gs.length := by have := h.1; simpa using this
theorem zxe {gs : List (List Span)} {w : List Int} {k : Nat} (h : Win (gs.map symI) w) (hk : k < gs.length) : memL (symI (nth gs k)) (nth w k) := by
 have := h.2 k (by simpa using hk)
 have e : nth (gs.map symI) k = symI (nth gs k) := by simp [nth, hk]
 rwa [e] at this
theorem zxf {gs : List (List Span)} {w : List Int} (h : Win (gs.map symI) w) {k : Nat} (hk : k < gs.length) : 0 ≤ nth w k ∧ nth w k ≤ 1114111 := (((z7h _).2 _).1 (zxe h hk)).1
theorem zxg {gs : List (List Span)} {w : List Int} {k : Nat} {x : Int} (h : Win (gs.map symI) w) (hk : k < gs.length) (hx : memL (symI (nth gs k)) x) : Win (gs.map symI) (w.set k x) :=
 zwx h (by simpa using hk) (by have e : nth (gs.map symI) k = symI (nth gs k) := (by simp [nth, hk]); rwa [e])
theorem ya3 {i : Int} {gs : List (List Span)} (hG : GOk i gs) : ∃ w, Win (gs.map symI) w := by
 refine zpy.1 (List.all_eq_true.2 fun g hg => ?_)
 rw [List.take_length] at hg
 obtain ⟨v, hv⟩ := hG.some g hg
 have h1 := (zae (hG.dom g hg)).2 hv
 have := List.length_pos_iff.2 (z90 h1)
 rw [decide_eq_true_eq]
 omega
theorem zes {t : Term} {i : Int} {gs : List (List Span)} (hT : TOk t i gs) (hG : GOk i gs) (h1 : ¬ (i = 2 ∧ t.parts.length = 1)) : ∀ (rest : List (List Span)) (k : Nat) (now : List Int), gs.drop k = rest → k ≤ gs.length → PS t gs k now →
   match nowR t i rest k now with
   | none => ∃ w, Win (gs.map symI) w ∧ 1114111 < t.sum + totW w t.parts
   | some m => PS t gs gs.length m
 | [], k, now, hd, hk, hp => by
   have : k = gs.length := by
     have := congrArg List.length hd
     simp at this; omega
   subst this
   exact hp
 | g :: rest, k, now, hd, hk, hp => by
   have hkl : k < gs.length := by
     rcases Nat.lt_or_ge k gs.length with h | h
     · exact h
     · rw [List.drop_of_length_le h] at hd; cases hd
   rw [drop_at hkl] at hd
   injection hd with hg hd
   subst hg
   have hgm := z0k hkl
   have hin : i = 1 → ∀ x, x ∈ inG (nth gs k) 256 ↔ memL (symI (nth gs k)) x := fun hi x => by
     rw [zx6, zae (hG.dom _ hgm)]
     constructor
     · rintro ⟨hx, hh⟩
       exact (zwz (by omega)).1 hh
     · intro hm
       have hb := hG.dom _ hgm x hm
       rw [hi] at hb
       simp only [zen, decide_eq_true_eq] at hb
       exact ⟨by omega, (zwz (by omega)).2 hm⟩
   rw [nowR]
   cases hs : z8c t.parts k (nth gs k) (topI i) with
   | false =>
     rw [if_neg (by simp)]
     have hnil : atL t.parts k = [] := by
       rcases hT.sort with hi | ⟨hi, hl, _⟩
       · rw [hi] at hs
         simp only [z8c, Bool.and_eq_false_iff, decide_eq_false_iff_not, Decidable.not_not] at hs
         rcases hs with hs | hs
         · exfalso
           obtain ⟨v, hv⟩ := hG.some _ hgm
           have := (hin hi v).2 ((zae (hG.dom _ hgm)).2 hv)
           rw [show topI 1 = 256 from rfl] at hs
           rw [hs] at this
           cases this
         · exact hs
       · have : t.parts = [] := List.eq_nil_of_length_eq_zero (by omega)
         rw [this]; rfl
     refine zes hT hG h1 rest (k + 1) now hd (by omega) ⟨hp.1, fun v => ?_⟩
     rw [hp.2]
     have e : ∀ w, begW t.parts (k + 1) w = begW t.parts k w := fun w => by rw [z6g, hnil, zir, Int.add_zero]
     simp only [e]
   | true =>
     rw [if_pos rfl]
     have hi : i = 1 := by
       rcases hT.sort with hi | ⟨hi, _, _⟩
       · exact hi
       · exfalso
         subst hi
         simp [z8c, topI, inG] at hs
     have e256 : topI i = 256 := by rw [hi]; rfl
     rw [e256] at hs ⊢
     have hop := zx9 hs
     obtain ⟨o1, o2, o3, o4⟩ := zx8 (a := (k : Int)) (g := nth gs k) (k := 256) (Nat.le_refl _) hT.four hT.bits
     have hstep : ∀ w, Win (gs.map symI) w → ∀ y, y ∈ ownL t.parts k (nth gs k) 256 → ∃ w', Win (gs.map symI) w' ∧ begW t.parts (k + 1) w' = begW t.parts k w + y := fun w hw y hy => by
       obtain ⟨x, hx, rfl⟩ := (o3 y).1 hy
       refine ⟨w.set k x, zxg hw hkl ((hin hi x).1 hx), ?_⟩
       have hlw := zxd hw
       rw [z6g, zq8 (by omega) (Nat.le_refl k), zb2 (by omega), if_pos rfl]
     cases hv : zeq now (ownL t.parts k (nth gs k) 256) with
     | none =>
       simp only [Option.bind_none]
       rw [zeq] at hv
       split at hv
       · rename_i hb
         obtain ⟨v, hv1, hv2⟩ := List.any_eq_true.1 hb
         obtain ⟨x, hx, y, hy, rfl⟩ := zer.1 hv1
         obtain ⟨w, hw, rfl⟩ := (hp.2 x).1 hx
         obtain ⟨w', hw', e'⟩ := hstep w hw y hy
         refine ⟨w', hw', ?_⟩
         have hm := zlr (k := k + 1) hT.bits (fun a ha => zxf hw' ha) (gs.length - (k + 1)) (by omega)
         rw [show k + 1 + (gs.length - (k + 1)) = gs.length by omega, zq7 hT.at] at hm
         simp only [bigB, decide_eq_true_eq] at hv2
         omega
       · cases hv
     | some m =>
       simp only [Option.bind_some]
       obtain ⟨m1, m2⟩ := zx7 hp.1 (fun y hy => (o4 y hy).1) hop hv
       refine zes hT hG h1 rest (k + 1) m hd (by omega) ⟨m1, fun v => ?_⟩
       rw [m2]
       constructor
       · rintro ⟨x, hx, y, hy, rfl⟩
         obtain ⟨w, hw, rfl⟩ := (hp.2 x).1 hx
         obtain ⟨w', hw', e'⟩ := hstep w hw y hy
         exact ⟨w', hw', by omega⟩
       · rintro ⟨w, hw, rfl⟩
         exact ⟨_, (hp.2 _).2 ⟨w, hw, rfl⟩, _, (o3 _).2 ⟨nth w k, (hin hi _).2 (zxe hw hkl), rfl⟩, by rw [z6g]; omega⟩
theorem zgw {t : Term} {i : Int} {gs : List (List Span)} (hT : TOk t i gs) (hG : GOk i gs) :
   ((z3z t i gs).2 = true ↔ ∀ w, Win (gs.map symI) w → 0 ≤ t.sum + totW w t.parts ∧ t.sum + totW w t.parts ≤ 1114111) ∧
   ((z3z t i gs).2 = true → Plain (z3z t i gs).1 ∧ (z3z t i gs).1.length ≤ 2147483649 ∧ ∀ v, memL (z3z t i gs).1 v ↔ ∃ w, Win (gs.map symI) w ∧ t.sum + totW w t.parts = v) := by
 have hall : ∀ w, begW t.parts gs.length w = totW w t.parts := fun w => zq7 hT.at
 obtain ⟨w0, hw0⟩ := ya3 hG
 have hsm := hT.sm
 by_cases h1 : i = 2 ∧ t.parts.length = 1
 · obtain ⟨p, hp⟩ : ∃ p, t.parts = [p] := List.length_eq_one_iff.1 h1.2
   have hpm : p ∈ t.parts := by rw [hp]; simp
   have hpa := hT.at p hpm
   have hpw : z4z p = true := by
     rcases hT.sort with h | h
     · omega
     · exact h.2.2 p hpm
   obtain ⟨a, ha⟩ : ∃ a : Nat, p.at_ = a := ⟨p.at_.toNat, by omega⟩
   have hag : a < gs.length := by omega
   have hgm := z0k hag
   have hI : z3z t i gs = (z3i (z0d (nth gs a)) t.sum, decide (0 ≤ (nth (z3i (z0d (nth gs a)) t.sum) 0).lo) && decide ((nth (z3i (z0d (nth gs a)) t.sum) ((z3i (z0d (nth gs a)) t.sum).length - 1)).hi ≤ 1114111)) := by
     rw [z3z, if_pos h1, show (nth t.parts 0) = p by rw [hp]; rfl, ha, Int.toNat_natCast]
   have htot : ∀ w, Win (gs.map symI) w → totW w t.parts = nth w a := fun w hw => by
     have hx := zxf hw hag
     rw [hp]
     simp only [totW, List.map_cons, List.map_nil, List.sum_cons, List.sum_nil, Int.add_zero, ha, Int.toNat_natCast]
     simp only [z4z, decide_eq_true_eq] at hpw
     rw [valP, hpw.1, hpw.2.1, hpw.2.2]
     simp
     omega
   have hmem : ∀ v, memL (z3i (z0d (nth gs a)) t.sum) v ↔ ∃ w, Win (gs.map symI) w ∧ t.sum + totW w t.parts = v := fun v => by
     rw [ziq (by omega), (z0c (nth gs a)).2]
     constructor
     · rintro ⟨⟨⟨h, _⟩, _⟩, _⟩
       have hs := (zae (hG.dom _ hgm)).2 h
       have hw := zxg hw0 hag hs
       refine ⟨_, hw, ?_⟩
       rw [htot _ hw, zb2 (by rw [zxd hw0]; exact hag), if_pos rfl]
       omega
     · rintro ⟨w, hw, rfl⟩
       rw [htot w hw]
       have hx := zxf hw hag
       have hs := (zae (hG.dom _ hgm)).1 (zxe hw hag)
       exact ⟨⟨⟨by rw [show t.sum + nth w a - t.sum = nth w a by omega]; exact hs, by omega⟩, by omega⟩, by omega⟩
   have hpl : Plain (z3i (z0d (nth gs a)) t.sum) := by
     rw [z3i, if_neg (by omega)]; exact (z0c _).1
   have hle : (z3i (z0d (nth gs a)) t.sum).length ≤ 2147483649 := by
     rw [z3i, if_neg (by omega)]; exact z6r _
   have hpos : 0 < (z3i (z0d (nth gs a)) t.sum).length := List.length_pos_iff.2 (z90 ((hmem _).2 ⟨w0, hw0, rfl⟩))
   rw [hI]
   generalize z3i (z0d (nth gs a)) t.sum = l at *
   refine ⟨?_, fun _ => ⟨hpl, hle, hmem⟩⟩
   simp only
   rw [Bool.and_eq_true, decide_eq_true_eq, decide_eq_true_eq, zxb hpl hpos]
   constructor
   · exact fun h w hw => h _ ((hmem _).2 ⟨w, hw, rfl⟩)
   · intro h v hv
     obtain ⟨w, hw, rfl⟩ := (hmem v).1 hv
     exact h w hw
 · have hst : PS t gs 0 [t.sum] := ⟨⟨by simp [z1d], by simp; omega, by simp⟩, fun v => by
     simp only [zxc, Int.add_zero, List.mem_singleton]
     exact ⟨fun h => ⟨w0, hw0, h.symm⟩, fun ⟨_, _, h⟩ => h.symm⟩⟩
   have hN := zes hT hG h1 gs 0 [t.sum] rfl (by omega) hst
   have hI : z3z t i gs = match nowR t i gs 0 [t.sum] with
     | none => ([], false)
     | some now => (z8j now, decide (0 ≤ nth now 0) && decide (nth now (now.length - 1) ≤ 1114111)) := if_neg h1
   cases hv : nowR t i gs 0 [t.sum] with
   | none =>
     rw [hv] at hN hI
     simp only at hN hI
     rw [hI]
     obtain ⟨w, hw, hb⟩ := hN
     refine ⟨⟨fun h => (by cases h), fun h => ?_⟩, fun h => (by cases h)⟩
     have := h w hw
     omega
   | some now =>
     rw [hv] at hN hI
     simp only at hN hI
     rw [hI]
     obtain ⟨n1, n2⟩ := hN
     obtain ⟨s1, s2⟩ := znx n1.ris
     have hsl := zgt now []
     have hnl := n1.len
     simp only [List.length_nil] at hsl
     refine ⟨?_, fun _ => ⟨s1, by simp only [z8j]; omega, fun v => ?_⟩⟩
     · simp only
       rw [Bool.and_eq_true, decide_eq_true_eq, decide_eq_true_eq, zst n1.ris n1.pos]
       constructor
       · intro h w hw
         have := h _ ((n2 _).2 ⟨w, hw, rfl⟩)
         rw [hall] at this
         exact this
       · intro h v hv
         obtain ⟨w, hw, rfl⟩ := (n2 v).1 hv
         rw [hall]
         exact h w hw
     · rw [s2, n2]
       simp only [hall]
def okQ (t : Term) (q : Int) : Bool := decide (0 ≤ t.base + q % 2 ^ t.take.toNat * 2 ^ t.up.toNat ∧ t.base + q % 2 ^ t.take.toNat * 2 ^ t.up.toNat ≤ 255)
def rowQ (t : Term) (a : Int) (n : Nat) : Bool := (List.range n).all fun k => okQ t (a + (k : Nat))
def zj1 (t : Term) (s : Span) : Bool := rowQ t (s.lo / 2 ^ t.drop.toNat) (s.hi / 2 ^ t.drop.toNat - s.lo / 2 ^ t.drop.toNat + 1).toNat
def zxh (t : Term) (i o : Int) (gs : List (List Span)) : Bool :=
 z4e t i o gs.length && ((z3z t i gs).2 && (if o = 2 then decide (z41 (z3z t i gs).1 (domL o) = []) else (z3z t i gs).1.all (zj1 t)))
theorem zet {t : Term} {a : Int} {n : Nat} : rowQ t a n = true ↔ ∀ k : Nat, k < n → okQ t (a + k) = true := by
 simp [rowQ, List.all_eq_true]
theorem zsu {t : Term} {a : Int} {n k : Nat} (h : k < n) (hb : okQ t (a + k) = false) : rowQ t a n = false := by
 rw [rowQ, List.all_eq_false]
 exact ⟨k, by simpa using h, by simp [hb]⟩
theorem zxi {t : Term} {a : Int} {n m : Nat} (hm : (m : Int) = 2 ^ t.take.toNat) (h : ∀ k : Nat, k < m → okQ t (a + k) = true) : rowQ t a n = true := by
 refine zet.2 fun k _ => ?_
 have hp : 0 < m := by
   have : (0 : Int) < 2 ^ t.take.toNat := Int.pow_pos (by decide)
   omega
 have h1 := h (k % m) (Nat.mod_lt _ hp)
 have e : (a + (k : Nat)) % 2 ^ t.take.toNat = (a + ((k % m : Nat) : Nat)) % 2 ^ t.take.toNat := by
   rw [← hm]
   have := Nat.div_add_mod k m
   rw [show (a + (k : Int)) = a + ((k % m : Nat) : Int) + (m : Int) * ((k / m : Nat) : Int) by rw [← Int.natCast_mul]; omega, Int.add_mul_emod_self_left]
 rw [okQ, e]
 rwa [okQ] at h1
theorem y6m {t : Term} {a : Int} {m : Nat} (hm : (m : Int) = 2 ^ t.take.toNat) (hb : 300 < m) (hup : t.up = 0 ∨ t.take ≤ 6) (ht : 1 ≤ t.take ∧ t.take ≤ 21) (h1 : okQ t a = true) (h2 : okQ t (a + 256) = true) : False := by
 have hu : t.up = 0 := by
   rcases hup with h | h
   · exact h
   · exfalso
     have : (2 : Nat) ^ t.take.toNat ≤ 2 ^ 6 := Nat.pow_le_pow_right (by decide) (by omega)
     have e : ((2 ^ t.take.toNat : Nat) : Int) = 2 ^ t.take.toNat := by simp
     omega
 have h9 : 512 ≤ m := by
   rcases Nat.lt_or_ge t.take.toNat 9 with h | h
   · have : (2 : Nat) ^ t.take.toNat ≤ 2 ^ 8 := Nat.pow_le_pow_right (by decide) (by omega)
     have e : ((2 ^ t.take.toNat : Nat) : Int) = 2 ^ t.take.toNat := by simp
     omega
   · have : (2 : Nat) ^ 9 ≤ 2 ^ t.take.toNat := Nat.pow_le_pow_right (by decide) h
     have e : ((2 ^ t.take.toNat : Nat) : Int) = 2 ^ t.take.toNat := by simp
     omega
 simp only [okQ, decide_eq_true_eq, hu, ← hm] at h1 h2
 simp only [show (0 : Int).toNat = 0 from rfl, Int.pow_zero, Int.mul_one] at h1 h2
 have b1 := Int.emod_nonneg a (show (m : Int) ≠ 0 by omega)
 have b2 := Int.emod_lt_of_pos a (show (0 : Int) < m by omega)
 have b3 := Int.emod_nonneg (a + 256) (show (m : Int) ≠ 0 by omega)
 have e1 := Int.emod_add_mul_ediv a m
 have e2 := Int.emod_add_mul_ediv (a + 256) m
 generalize a % (m : Int) = r1 at *
 generalize (a + 256) % (m : Int) = r2 at *
 generalize a / (m : Int) = q1 at *
 generalize (a + 256) / (m : Int) = q2 at *
 have e3 : r2 - r1 - 256 = (m : Int) * (q1 - q2) := by rw [Int.mul_sub]; omega
 rcases Int.lt_trichotomy (q1 - q2) 0 with h | h | h
 · have := Int.mul_le_mul_of_nonneg_left (show q1 - q2 ≤ -1 by omega) (show (0 : Int) ≤ m by omega)
   omega
 · rw [h] at e3; omega
 · have := Int.mul_le_mul_of_nonneg_left (show 1 ≤ q1 - q2 by omega) (show (0 : Int) ≤ m by omega)
   omega
theorem y1m {t : Term} {l : List Span} {k : Nat} (h : k < l.length) : (l.drop k).all (zj1 t) = (zj1 t (nth l k) && (l.drop (k + 1)).all (zj1 t)) := by rw [drop_at h, List.all_cons]
set_option maxHeartbeats 4000000 in
theorem zsv (t : Term) (i o : Int) (gs : List (List Span)) (ht : t.parts.length < 1000000000000) (hG : GOk i gs) :
   PC Try.prog 57 [z1m t, .int .i64 i, .int .i64 o, z0b gs] (.bool (zxh t i o gs)) := by
 have hP := z06 gs
 have hR := zve t i o gs.length ht
 refine z0t zke ?_
 unfold zbg
 cases hr : z4e t i o gs.length with
 | false =>
   rw [hr] at hR
   rw [zxh, hr, Bool.false_and]
   (repeat' (first | (simp (disch := omega) only [push_cast, ↓zz, seval, hP]) | (with_reducible first | refine And.intro ?_ ?_ | (first | refine z01 ?_ ?_ | refine z00 ?_ ?_) <;> intro hc <;> (try simp only [push_cast] at hc)) | ((with_reducible first | refine eK hR ?_ | refine eQ hR ?_ | refine eG hR ?_)) | ((with_reducible first | refine cK hR ?_ | refine cQ hR ?_ | refine cG hR ?_); (simp (disch := omega) only [push_cast, ↓zz, seval, hP]); (fail_if_success (with_reducible change False))) | omega | with_reducible intro _))
 | true =>
 rw [hr] at hR
 have hI := znw t i o gs hr hG
 obtain ⟨s1, s2⟩ := zgw (y2h hr) hG
 have hout : z2o t.outer = true := by
   have hn := (z4c hr).1
   simp only [z1p, Bool.and_eq_true] at hn
   exact hn.1.2
 have hbase : z1n t.base = true := by
   have hn := (z4c hr).1
   simp only [z1p, Bool.and_eq_true] at hn
   exact hn.1.1.1
 have hbm := z44 hbase
 rw [z3d] at hout
 simp only at hout
 rw [zxh, hr, Bool.true_and]
 cases hok : (z3z t i gs).2 with
 | false =>
   rw [hok] at hI
   rw [Bool.false_and]
   (repeat' (first | (simp (disch := omega) only [push_cast, ↓zz, seval, hP]) | (with_reducible first | refine And.intro ?_ ?_ | (first | refine z01 ?_ ?_ | refine z00 ?_ ?_) <;> intro hc <;> (try simp only [push_cast] at hc)) | ((with_reducible first | refine eK hR ?_ | refine eQ hR ?_ | refine eG hR ?_)) | ((with_reducible first | refine eK hI ?_ | refine eQ hI ?_ | refine eG hI ?_)) | ((with_reducible first | refine cK hR ?_ | refine cQ hR ?_ | refine cG hR ?_); (simp (disch := omega) only [push_cast, ↓zz, seval, hP]); (fail_if_success (with_reducible change False))) | ((with_reducible first | refine cK hI ?_ | refine cQ hI ?_ | refine cG hI ?_); (simp (disch := omega) only [push_cast, ↓zz, seval, hP]); (fail_if_success (with_reducible change False))) | omega | with_reducible intro _))
 | true =>
 obtain ⟨p1, p2, p3⟩ := s2 hok
 have hrng : ∀ v, memL (z3z t i gs).1 v → 0 ≤ v ∧ v ≤ 1114111 := fun v hv => by
   obtain ⟨w, hw, rfl⟩ := (p3 v).1 hv
   exact s1.1 hok w hw
 rw [hok] at hI
 rw [Bool.true_and]
 clear s1 s2 p3
 generalize (z3z t i gs).1 = l at *
 have hpl := z2b l
 by_cases ho : o = 2
 · subst ho
   have hD := zc1 2
   have hM := zax l (domL 2) 2 (by omega) (by have := ziu 2; omega)
   rw [zgg] at hM
   rw [if_pos rfl]
   have hlen : decide (((z41 l (domL 2)).length : Int) = 0) = decide (z41 l (domL 2) = []) := by
     rw [decide_eq_decide]
     constructor
     · exact fun h => List.eq_nil_of_length_eq_zero (by omega)
     · intro h; rw [h]; rfl
   (repeat' (first | (simp (disch := omega) only [push_cast, ↓zz, seval, hP, hpl]) | (with_reducible first | refine And.intro ?_ ?_ | (first | refine z01 ?_ ?_ | refine z00 ?_ ?_) <;> intro hc <;> (try simp only [push_cast] at hc)) | ((with_reducible first | refine eK hR ?_ | refine eQ hR ?_ | refine eG hR ?_)) | ((with_reducible first | refine eK hI ?_ | refine eQ hI ?_ | refine eG hI ?_)) | ((with_reducible first | refine eK hD ?_ | refine eQ hD ?_ | refine eG hD ?_)) | ((with_reducible first | refine eK hM ?_ | refine eQ hM ?_ | refine eG hM ?_)) | ((with_reducible first | refine cK hR ?_ | refine cQ hR ?_ | refine cG hR ?_); (simp (disch := omega) only [push_cast, ↓zz, seval, hP, hpl]); (fail_if_success (with_reducible change False))) | ((with_reducible first | refine cK hI ?_ | refine cQ hI ?_ | refine cG hI ?_); (simp (disch := omega) only [push_cast, ↓zz, seval, hP, hpl]); (fail_if_success (with_reducible change False))) | ((with_reducible first | refine cK hD ?_ | refine cQ hD ?_ | refine cG hD ?_); (simp (disch := omega) only [push_cast, ↓zz, seval, hP, hpl]); (fail_if_success (with_reducible change False))) | ((with_reducible first | refine cK hM ?_ | refine cQ hM ?_ | refine cG hM ?_); (simp (disch := omega) only [push_cast, ↓zz, seval, hP, hpl]); (fail_if_success (with_reducible change False))) | omega | with_reducible intro _))
 · rw [if_neg ho]
   have hT1 := z6o t.drop (by omega)
   have hT2 := z6o t.take (by omega)
   have hT3 := z6o t.up (by omega)
   have pd := z69 t.drop.toNat (by omega)
   have pt := z69 t.take.toNat (by omega)
   have pu := z69 t.up.toNat (by omega)
   have hoq : ∀ q, okQ t q = decide (0 ≤ t.base + q % 2 ^ t.take.toNat * 2 ^ t.up.toNat ∧ t.base + q % 2 ^ t.take.toNat * 2 ^ t.up.toNat ≤ 255) := fun _ => rfl
   have hsq : ∀ s, zj1 t s = rowQ t (s.lo / 2 ^ t.drop.toNat) (s.hi / 2 ^ t.drop.toNat - s.lo / 2 ^ t.drop.toNat + 1).toNat := fun _ => rfl
   obtain ⟨m, hm⟩ : ∃ m : Nat, (m : Int) = 2 ^ t.take.toNat := ⟨2 ^ t.take.toNat, by simp⟩
   have hround := fun a n => zxi (t := t) (a := a) (n := n) hm
   have hfar := fun a hb => y6m (t := t) (a := a) hm hb (by omega) (by omega)
   generalize (2 : Int) ^ t.take.toNat = P at *
   subst hm
   generalize (2 : Int) ^ t.drop.toNat = D at *
   generalize (2 : Int) ^ t.up.toNat = U at *
   (repeat' (first | (simp (disch := omega) only [push_cast, ↓zz, seval, hP, hpl]) | (with_reducible first | refine And.intro ?_ ?_ | (first | refine z01 ?_ ?_ | refine z00 ?_ ?_) <;> intro hc <;> (try simp only [push_cast] at hc)) | ((with_reducible first | refine eK hR ?_ | refine eQ hR ?_ | refine eG hR ?_)) | ((with_reducible first | refine eK hI ?_ | refine eQ hI ?_ | refine eG hI ?_)) | ((with_reducible first | refine eK hT1 ?_ | refine eQ hT1 ?_ | refine eG hT1 ?_)) | ((with_reducible first | refine eK hT2 ?_ | refine eQ hT2 ?_ | refine eG hT2 ?_)) | ((with_reducible first | refine eK hT3 ?_ | refine eQ hT3 ?_ | refine eG hT3 ?_)) | ((with_reducible first | refine cK hR ?_ | refine cQ hR ?_ | refine cG hR ?_); (simp (disch := omega) only [push_cast, ↓zz, seval, hP, hpl]); (fail_if_success (with_reducible change False))) | ((with_reducible first | refine cK hI ?_ | refine cQ hI ?_ | refine cG hI ?_); (simp (disch := omega) only [push_cast, ↓zz, seval, hP, hpl]); (fail_if_success (with_reducible change False))) | ((with_reducible first | refine cK hT1 ?_ | refine cQ hT1 ?_ | refine cG hT1 ?_); (simp (disch := omega) only [push_cast, ↓zz, seval, hP, hpl]); (fail_if_success (with_reducible change False))) | ((with_reducible first | refine cK hT2 ?_ | refine cQ hT2 ?_ | refine cG hT2 ?_); (simp (disch := omega) only [push_cast, ↓zz, seval, hP, hpl]); (fail_if_success (with_reducible change False))) | ((with_reducible first | refine cK hT3 ?_ | refine cQ hT3 ?_ | refine cG hT3 ?_); (simp (disch := omega) only [push_cast, ↓zz, seval, hP, hpl]); (fail_if_success (with_reducible change False))) | omega | with_reducible intro _))
   refine z0i (z0j (fun (k : Nat) => k ≤ l.length ∧ l.all (zj1 t) = (l.drop k).all (zj1 t)) (fun k => l.length - k)
     (fun k => [(4, .ptr 0 1 0 0), (9, z03 l), (11, .int .i64 D), (12, .int .i64 m), (13, .int .i64 U), (14, .int .i64 k)]) (fun k => [⟨6, 1, true, [z1m t]⟩]) (fun env _ => [z0r 1 (env 4)]) 0 ⟨by simp, rfl⟩ ?_ ?_)
   · (repeat' (first | (simp (disch := omega) only [push_cast, ↓zz, seval, hP, hpl]) | (with_reducible first | refine And.intro ?_ ?_ | (first | refine z01 ?_ ?_ | refine z00 ?_ ?_) <;> intro hc <;> (try simp only [push_cast] at hc)) | omega | with_reducible intro _))
   rintro k ⟨k1, k2⟩
   rcases Nat.lt_or_ge k l.length with hk | hk
   · rw [y1m hk] at k2
     have hs1 := p1.1 _ (z0k hk)
     have hs2 := hrng (nth l k).lo ⟨_, z0k hk, Int.le_refl _, hs1⟩
     have hs3 := hrng (nth l k).hi ⟨_, z0k hk, hs1, Int.le_refl _⟩
     generalize hse : nth l k = s at *
     rw [hsq] at k2
     have q1 : s.lo.tdiv D = s.lo / D := Int.tdiv_eq_ediv_of_nonneg hs2.1
     have q2 : s.hi.tdiv D = s.hi / D := Int.tdiv_eq_ediv_of_nonneg hs3.1
     have b1 : 0 ≤ s.lo / D := Int.ediv_nonneg hs2.1 (by omega)
     have b2 : s.hi / D ≤ s.hi := Int.ediv_le_self _ hs3.1
     have b3 : s.lo / D ≤ s.hi / D := Int.ediv_le_ediv (by omega) hs1
     have w1 : IntKind.i64.wrap (s.lo / D) = s.lo / D := IntWalk.i64_in _ (by omega)
     have w2 : IntKind.i64.wrap (s.hi / D) = s.hi / D := IntWalk.i64_in _ (by omega)
     generalize s.lo / D = a at *
     generalize s.hi / D = b at *
     refine W_T ?_
     (repeat' (first | (simp (disch := omega) only [push_cast, ↓zz, seval, hP, hpl, hse, q1, q2, w1, w2]) | (with_reducible first | refine And.intro ?_ ?_ | (first | refine z01 ?_ ?_ | refine z00 ?_ ?_) <;> intro hc <;> (try simp only [push_cast] at hc)) | omega | with_reducible intro _))
     refine z0i (z0j (fun (n : Nat) => n ≤ (b - a + 1).toNat ∧ ∀ j : Nat, j < n → okQ t (a + j) = true) (fun n => (b - a + 1).toNat - n)
       (fun n => [(4, .ptr 0 1 0 0), (9, z03 l), (11, .int .i64 D), (12, .int .i64 m), (13, .int .i64 U), (14, .int .i64 k), (15, .int .i64 a), (16, .int .i64 b), (17, .int .i64 (a + n))]) (fun n => [⟨6, 1, true, [z1m t]⟩]) (fun env _ => [z0r 1 (env 4)]) 0 ⟨by simp, fun j hj => by omega⟩ ?_ ?_)
     · (repeat' (first | (simp (disch := omega) only [push_cast, ↓zz, seval, hP, hpl]) | (with_reducible first | refine And.intro ?_ ?_ | (first | refine z01 ?_ ?_ | refine z00 ?_ ?_) <;> intro hc <;> (try simp only [push_cast] at hc)) | omega | with_reducible intro _))
     rintro n ⟨n1, n2⟩
     rcases Nat.lt_or_ge n (b - a + 1).toNat with hn | hn
     · have r0 : 0 ≤ (a + n) % (m : Int) := Int.emod_nonneg _ (by omega)
       have r1 : (a + n) % (m : Int) < m := Int.emod_lt_of_pos _ (by omega)
       have hrm : (a + n).tmod m = (a + n) % (m : Int) := Int.tmod_eq_emod_of_nonneg (by omega)
       have hoqn := hoq (a + n)
       generalize (a + (n : Int)) % (m : Int) = r at *
       have v0 : 0 ≤ r * U := Int.mul_nonneg r0 (by omega)
       have v1 : r * U ≤ 2097152 * 2097152 := Int.mul_le_mul (by omega) (by omega) (by omega) (by omega)
       have w3 : IntKind.i64.wrap r = r := IntWalk.i64_in _ (by omega)
       have w4 : IntKind.i64.wrap (r * U) = r * U := IntWalk.i64_in _ (by omega)
       obtain ⟨v, hv⟩ : ∃ v, r * U = v := ⟨_, rfl⟩
       rw [hv] at v0 v1 w4 hoqn
       have w5 : IntKind.i64.wrap (t.base + v) = t.base + v := IntWalk.i64_in _ (by omega)
       by_cases hf : 300 < n ∧ 300 < m
       · have f1 := n2 0 (by omega)
         have f2 := n2 256 (by omega)
         exact absurd (hfar a hf.2 (by simpa using f1) (by simpa using f2)) (by simp)
       refine W_T ?_
       by_cases hbr : m < n
       · have hrow := hround a (b - a + 1).toNat fun j hj => n2 j (by omega)
         rw [hrow, Bool.true_and] at k2
         (repeat' (first | (simp (disch := omega) only [push_cast, ↓zz, seval, hP, hpl]) | (with_reducible first | refine And.intro ?_ ?_ | (first | refine z01 ?_ ?_ | refine z00 ?_ ?_) <;> intro hc <;> (try simp only [push_cast] at hc)) | omega | with_reducible intro _))
         all_goals first
           | exact ⟨k + 1, by push_cast, ⟨by omega, k2⟩, by omega⟩
           | trace_state
       · cases hb : okQ t (a + n) with
         | false =>
           rw [hb] at hoqn
           have hno := of_decide_eq_false hoqn.symm
           rw [zsu hn hb, Bool.false_and] at k2
           (repeat' (first | (simp (disch := omega) only [push_cast, ↓zz, seval, hP, hpl, hrm, hv, w3, w4, w5, k2]) | (with_reducible first | refine And.intro ?_ ?_ | (first | refine z01 ?_ ?_ | refine z00 ?_ ?_) <;> intro hc <;> (try simp only [push_cast] at hc)) | omega | with_reducible intro _))
         | true =>
           rw [hb] at hoqn
           have hyes := of_decide_eq_true hoqn.symm
           have nx : ∀ j : Nat, j < n + 1 → okQ t (a + j) = true := fun j hj => by
             rcases Nat.lt_or_ge j n with h | h
             · exact n2 j h
             · rw [show j = n by omega]; exact hb
           (repeat' (first | (simp (disch := omega) only [push_cast, ↓zz, seval, hP, hpl, hrm, hv, w3, w4, w5]) | (with_reducible first | refine And.intro ?_ ?_ | (first | refine z01 ?_ ?_ | refine z00 ?_ ?_) <;> intro hc <;> (try simp only [push_cast] at hc)) | omega | with_reducible intro _))
           all_goals first
             | exact ⟨n + 1, by push_cast; omega, ⟨by omega, nx⟩, by omega⟩
             | trace_state
     · have hrow : rowQ t a (b - a + 1).toNat = true := zet.2 fun j hj => n2 j (by omega)
       rw [hrow, Bool.true_and] at k2
       refine W_T ?_
       (repeat' (first | (simp (disch := omega) only [push_cast, ↓zz, seval, hP, hpl]) | (with_reducible first | refine And.intro ?_ ?_ | (first | refine z01 ?_ ?_ | refine z00 ?_ ?_) <;> intro hc <;> (try simp only [push_cast] at hc)) | omega | with_reducible intro _))
       all_goals first
         | exact ⟨k + 1, by push_cast, ⟨by omega, k2⟩, by omega⟩
         | trace_state
   · rw [List.drop_of_length_le hk, List.all_nil] at k2
     refine W_T ?_
     (repeat' (first | (simp (disch := omega) only [push_cast, ↓zz, seval, hP, hpl, k2]) | (with_reducible first | refine And.intro ?_ ?_ | (first | refine z01 ?_ ?_ | refine z00 ?_ ?_) <;> intro hc <;> (try simp only [push_cast] at hc)) | omega | with_reducible intro _))
     all_goals trace_state
theorem zgx {t : Term} {s : Span} (hs : s.lo ≤ s.hi) : zj1 t s = true ↔ ∀ v, s.lo ≤ v → v ≤ s.hi → okQ t (v / 2 ^ t.drop.toNat) = true := by
 have hD : (0 : Int) < 2 ^ t.drop.toNat := Int.pow_pos (by decide)
 rw [zj1, zet]
 generalize (2 : Int) ^ t.drop.toNat = D at *
 have hq := fun q => zwt (lo := s.lo) (hi := s.hi) (q := q) hD hs
 have hle : s.lo / D ≤ s.hi / D := Int.ediv_le_ediv hD hs
 constructor
 · intro h v h1 h2
   have b1 : s.lo / D ≤ v / D := Int.ediv_le_ediv hD h1
   have b2 : v / D ≤ s.hi / D := Int.ediv_le_ediv hD h2
   have := h (v / D - s.lo / D).toNat (by omega)
   rwa [show s.lo / D + (((v / D - s.lo / D).toNat : Nat) : Int) = v / D by omega] at this
 · intro h k hk
   obtain ⟨x, x1, x2, x3⟩ := (hq (s.lo / D + k)).2 ⟨by omega, by omega⟩
   rw [← x3]
   exact h x x1 x2
theorem zq9 {t : Term} {i o : Int} {n : Int} {w : List Int} {x : Int} (hr : z4e t i o n = true) (hx : 0 ≤ x ∧ x ≤ 1114111) (hv : z6x t w = some (t.base + valP t.outer x)) :
   fitW t o w = true ↔ (if o = 2 then zen o x else okQ t (x / 2 ^ t.drop.toNat)) = true := by
 rw [fitW, hv]
 simp only
 simp only [z4e, zkw, zbx, Bool.and_eq_true, Bool.or_eq_true, decide_eq_true_eq] at hr
 obtain ⟨⟨⟨⟨⟨_, h1⟩, _⟩, _⟩, _⟩, h2⟩ := hr
 by_cases ho : o = 2
 · rw [if_pos ho]
   obtain ⟨b1, b2, b3, b4⟩ : t.base = 0 ∧ t.drop = 0 ∧ t.take = 21 ∧ t.up = 0 := by
     rcases h2 with h2 | h2
     · exact absurd ho h2
     · exact h2
   have e : t.base + valP t.outer x = x := by
     simp only [valP, Term.outer, b1, b2, b3, b4]
     simp
     omega
   rw [e, Bool.and_eq_true, decide_eq_true_eq]
   exact ⟨fun h => h.2, fun h => ⟨hx, h⟩⟩
 · rw [if_neg ho]
   have ho1 : o = 1 := by omega
   have e : okQ t (x / 2 ^ t.drop.toNat) = decide (0 ≤ t.base + valP t.outer x ∧ t.base + valP t.outer x ≤ 255) := rfl
   rw [e, ho1, Bool.and_eq_true, decide_eq_true_eq, decide_eq_true_eq, zen, decide_eq_true_eq]
   omega
theorem zxj {t : Term} {i o : Int} {gs : List (List Span)} (hG : GOk i gs) : zxh t i o gs = zc4 t i o gs := by
 rw [Bool.eq_iff_iff, zln hG.len, zxh, Bool.and_eq_true, Bool.and_eq_true]
 refine and_congr_right fun hr => ?_
 obtain ⟨hn, hp⟩ := z4c hr
 have hS := z84 hp hG.len
 have hT := y2h hr
 obtain ⟨s1, s2⟩ := zgw hT hG
 have hval := fun w hw => z6e (w := w) hS hn hw
 constructor
 · rintro ⟨hok, hres⟩ w hw
   have hrng := s1.1 hok w hw
   obtain ⟨p1, p2, p3⟩ := s2 hok
   have hm := (p3 _).2 ⟨w, hw, rfl⟩
   rw [zq9 hr hrng (by rw [hval w hw, if_pos hrng])]
   generalize (z3z t i gs).1 = l at *
   have hbl : ∀ v, memL l v → -1073741824 ≤ v ∧ v ≤ 1073741824 := fun v hv => by
     obtain ⟨w, hw, rfl⟩ := (p3 v).1 hv
     have := s1.1 hok w hw
     omega
   by_cases ho : o = 2
   · rw [if_pos ho] at hres ⊢
     rw [decide_eq_true_eq] at hres
     exact z91.1 ((z6f hbl p1.1).1 hres _ hm)
   · rw [if_neg ho] at hres ⊢
     obtain ⟨s, hs, hs2⟩ := hm
     exact (zgx (p1.1 s hs)).1 (List.all_eq_true.1 hres s hs) _ hs2.1 hs2.2
 · intro h
   have hok : (z3z t i gs).2 = true := s1.2 fun w hw => by
     have := h w hw
     rw [fitW, hval w hw] at this
     split at this
     · rename_i v hv
       split at hv
       · assumption
       · cases hv
     · cases this
   refine ⟨hok, ?_⟩
   obtain ⟨p1, p2, p3⟩ := s2 hok
   have hfw : ∀ v, memL (z3z t i gs).1 v → (if o = 2 then zen o v else okQ t (v / 2 ^ t.drop.toNat)) = true := fun v hv => by
     obtain ⟨w, hw, rfl⟩ := (p3 v).1 hv
     have hrng := s1.1 hok w hw
     exact (zq9 hr hrng (by rw [hval w hw, if_pos hrng])).1 (h w hw)
   have hbl : ∀ v, memL (z3z t i gs).1 v → -1073741824 ≤ v ∧ v ≤ 1073741824 := fun v hv => by
     obtain ⟨w, hw, rfl⟩ := (p3 v).1 hv
     have := s1.1 hok w hw
     omega
   by_cases ho : o = 2
   · rw [if_pos ho, decide_eq_true_eq, z6f hbl p1.1]
     intro v hv
     have := hfw v hv
     rw [if_pos ho] at this
     exact z91.2 this
   · rw [if_neg ho, List.all_eq_true]
     intro s hs
     rw [zgx (p1.1 s hs)]
     intro v h1 h2
     have := hfw v ⟨s, hs, h1, h2⟩
     rwa [if_neg ho] at this
theorem zgy : ∀ {l : List Span} {last : Int}, zbz last l = true ↔ (∀ s ∈ l, s.lo ≤ s.hi ∧ -1073741824 ≤ s.lo ∧ s.hi ≤ 1073741824 ∧ last + 1 < s.lo) ∧ l.Pairwise fun s t => s.hi + 1 < t.lo
 | [], last => by simp [zbz]
 | s :: l, last => by
   rw [zbz, Bool.and_eq_true, decide_eq_true_eq, zgy (l := l), List.pairwise_cons]
   constructor
   · rintro ⟨h1, h2, h3⟩
     refine ⟨fun t ht => ?_, fun t ht => (h2 t ht).2.2.2, h3⟩
     rcases List.mem_cons.1 ht with rfl | ht
     · exact h1
     · have := h2 t ht
       omega
   · rintro ⟨h1, h2, h3⟩
     exact ⟨h1 s (by simp), fun t ht => ⟨(h1 t (by simp [ht])).1, (h1 t (by simp [ht])).2.1, (h1 t (by simp [ht])).2.2.1, h2 t ht⟩, h3⟩
theorem zsw {g : List Span} : zeb g = true ↔ g = z0d g := by
 rw [zeb, zgy]
 constructor
 · rintro ⟨h1, h2⟩
   exact (zaa ⟨fun s hs => (h1 s hs).1, h2⟩ fun s hs => ⟨(h1 s hs).2.1, (h1 s hs).2.2.1⟩).symm
 · intro h
   have hp := (z0c g).1
   have hb := z2u g
   rw [← h] at hp hb
   exact ⟨fun s hs => by have := hb s hs; omega, hp.2⟩
def zqa (i : Int) (g : List Span) : Bool := decide (g.length ≠ 0) && (decide (g.length ≤ 64) && (decide (g = z0d g) && decide (z41 g (domL i) = [])))
theorem zgz (i : Int) (g : List Span) : zqa i g = z7j i g := by
 have hc : decide (g = z0d g) = zeb g := by rw [Bool.eq_iff_iff, decide_eq_true_eq, zsw]
 have h1 : decide (g.length ≠ 0) = !decide ((g.length : Int) = 0) := by
   rw [Bool.eq_iff_iff, Bool.not_eq_true', decide_eq_true_eq, decide_eq_false_iff_not]; omega
 have h2 : decide (g.length ≤ 64) = decide ((g.length : Int) ≤ 64) := by rw [decide_eq_decide]; omega
 rw [zqa, z7j, hc, h1, h2]
theorem zeu {i : Int} {gs : List (List Span)} (h : z2l i gs = true) : GOk i gs := by
 obtain ⟨h1, h2⟩ := z4x h
 simp only [z2l, Bool.and_eq_true, List.all_eq_true] at h
 have hg : ∀ g ∈ gs, g.length ≠ 0 ∧ g = z0d g ∧ z41 g (domL i) = [] := fun g hm => by
   have := h.2 g hm
   rw [← zgz] at this
   simp only [zqa, Bool.and_eq_true, decide_eq_true_eq] at this
   exact ⟨this.1, this.2.2.1, this.2.2.2⟩
 refine ⟨h1, h2, fun g hm => ?_, fun g hm v hv => ?_⟩
 · obtain ⟨g1, g2, g3⟩ := hg g hm
   obtain ⟨s, hs⟩ := List.exists_mem_of_length_pos (show 0 < g.length by omega)
   have hf := (z0c g).1.1
   rw [← g2] at hf
   exact ⟨s.lo, s, hs, Int.le_refl _, hf s hs⟩
 · obtain ⟨g1, g2, g3⟩ := hg g hm
   have hb := z2u g
   have hf := (z0c g).1.1
   rw [← g2] at hb hf
   have hbl : ∀ v, memL g v → -1073741824 ≤ v ∧ v ≤ 1073741824 := fun v ⟨s, hs, hv⟩ => by have := hb s hs; omega
   exact z91.1 ((z6f hbl hf).1 g3 v hv)
end Go.Proofs.Yticodgjinajkpaa
