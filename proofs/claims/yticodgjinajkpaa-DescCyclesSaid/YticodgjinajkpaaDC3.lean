/-
  Calls that take data and give data: 'PC'. What is made in a call and never written again is data for the caller.
  The walk's rules, an operation at a time, what follows behind a letter.
  Numbers: bit patterns as sums and remainders; what a program's arithmetic leaves alone.
  Groups that nobody will write again are read as data: at a point of the code, and at a call.
  From a contract to what a statement asks: the answer, and that no memory that came in has turned.
  The walk as rewriting: what a piece of code asks ('W'), unfolded from the front, an operation at a time; it stops at calls and at loops.
  What each operation asks, as rules of rewriting.
  Groups numbered anew: at a point of the code some groups are kept, under new numbers; all others are read as data from there on.
  Heaps written out as lists of groups; heads of loops: which slots and which groups go on, and as what.
  The walk's rules for heaps that are written out, for heads of loops, and for calls.
  The data of the program, and how values mean it.
  What comes in is data: numbers, Bools, texts, slices and records of them, however deep.
  A whole law: from a contract for all data that may come in to the row that it asks for.
-/
import Derived.LoopN
import Derived.IntWalk
import Derived.Below
import Derived.Deep.Slices
import Derived.OpenShut
import Derived.Carry
import Derived.WideShapes
import Derived.ProofKit
import Derived.ChangeOld
import Derived.Test.YticodgjinajkpaaDC2
set_option linter.unusedSimpArgs false
set_option linter.unusedVariables false
namespace Go.Proofs.Yticodgjinajkpaa.Abs
mutual
def AV.flat : AV → Bool
  | .ref .. | .ptr .. | .map .. | .lst .. | .full .. | .cptr _ => false
  | .agg cs | .tup cs | .fn _ cs => flatL cs
  | .any | .bool _ | .int .. | .str _ | .nilS | .nul | .emp | .nilP | .nilF | .yld _ => true
def flatL : List AV → Bool
  | [] => true
  | x :: xs => x.flat && flatL xs
end
mutual
theorem VRel.of_flat {S S' : MS} : ∀ {x : AV} {v : Value}, x.flat = true → VRel S x v → VRel S' x v
  | .any, _, _, _ => trivial
  | .bool _, _, _, h => h
  | .int _ _, _, _, h => h
  | .str _, _, _, h => h
  | .nilS, _, _, h => h
  | .nul, _, _, h => h
  | .emp, _, _, h => h
  | .nilP, _, _, h => h
  | .nilF, _, _, h => h
  | .yld _, _, _, h => h
  | .agg _, _, hf, h => let ⟨vs, hv, hr⟩ := h; ⟨vs, hv, VsRel.of_flat (by simpa [AV.flat] using hf) hr⟩
  | .tup _, _, hf, h => let ⟨vs, hv, hr⟩ := h; ⟨vs, hv, VsRel.of_flat (by simpa [AV.flat] using hf) hr⟩
  | .fn _ _, _, hf, h => let ⟨vs, hv, hr⟩ := h; ⟨vs, hv, VsRel.of_flat (by simpa [AV.flat] using hf) hr⟩
  | .ref .., _, hf, _ => by simp [AV.flat] at hf
  | .ptr .., _, hf, _ => by simp [AV.flat] at hf
  | .lst .., _, hf, _ => by simp [AV.flat] at hf
  | .full .., _, hf, _ => by simp [AV.flat] at hf
  | .map .., _, hf, _ => by simp [AV.flat] at hf
  | .cptr _, _, hf, _ => by simp [AV.flat] at hf
theorem VsRel.of_flat {S S' : MS} : ∀ {xs : List AV} {vs : List Value}, flatL xs = true → VsRel S xs vs → VsRel S' xs vs
  | [], _, _, h => h
  | x :: xs, vs, hf, h => by
    obtain ⟨v, r, hv, h1, h2⟩ := h
    simp only [flatL, Bool.and_eq_true] at hf
    exact ⟨v, r, hv, VRel.of_flat hf.1 h1, VsRel.of_flat hf.2 h2⟩
end
mutual
theorem VRel.of_pure {S S' : MS} (hw : S'.w = S.w) (hi : ∀ b, S.im b → S'.im b) : ∀ {x : AV} {v : Value}, x.pure = true → VRel S x v → VRel S' x v
  | .any, _, _, _ => trivial
  | .bool _, _, _, h => h
  | .int _ _, _, _, h => h
  | .str _, _, _, h => h
  | .nilS, _, _, h => h
  | .nul, _, _, h => h
  | .emp, _, _, h => h
  | .nilP, _, _, h => h
  | .nilF, _, _, h => h
  | .yld _, _, _, h => h
  | .agg _, _, hf, h => let ⟨vs, hv, hr⟩ := h; ⟨vs, hv, VsRel.of_pure hw hi (by simpa [AV.pure] using hf) hr⟩
  | .tup _, _, hf, h => let ⟨vs, hv, hr⟩ := h; ⟨vs, hv, VsRel.of_pure hw hi (by simpa [AV.pure] using hf) hr⟩
  | .fn _ _, _, hf, h => let ⟨vs, hv, hr⟩ := h; ⟨vs, hv, VsRel.of_pure hw hi (by simpa [AV.pure] using hf) hr⟩
  | .ref .., _, hf, _ => by simp [AV.pure] at hf
  | .ptr .., _, hf, _ => by simp [AV.pure] at hf
  | .map .., _, hf, _ => by simp [AV.pure] at hf
  | .lst wd xs, v, _, h => by
    obtain ⟨hp, h0, a, cap, vs, hv, hc, hl, hr⟩ := h
    exact ⟨hp, h0, a, cap, vs, hv, hc, VsRel.of_pure hw hi hp hl, fun hne => let ⟨b, o, ha, him, hrow⟩ := hr hne; ⟨b, o, ha, hi b him, by rw [hw]; exact hrow⟩⟩
  | .full wd xs, v, _, h => by
    obtain ⟨hp, h0, a, vs, hv, hc, hl, hr⟩ := h
    exact ⟨hp, h0, a, vs, hv, hc, VsRel.of_pure hw hi hp hl, fun hne => let ⟨b, o, ha, him, hrow⟩ := hr hne; ⟨b, o, ha, hi b him, by rw [hw]; exact hrow⟩⟩
  | .cptr x, v, _, h => by
    obtain ⟨hp, b, o, u, hv, him, hx, hl⟩ := h
    exact ⟨hp, b, o, u, hv, hi b him, VRel.of_pure hw hi hp hx, by rw [hw]; exact hl⟩
theorem VsRel.of_pure {S S' : MS} (hw : S'.w = S.w) (hi : ∀ b, S.im b → S'.im b) : ∀ {xs : List AV} {vs : List Value}, pureL xs = true → VsRel S xs vs → VsRel S' xs vs
  | [], _, _, h => h
  | x :: xs, vs, hf, h => by
    obtain ⟨v, r, hv, h1, h2⟩ := h
    simp only [pureL, Bool.and_eq_true] at hf
    exact ⟨v, r, hv, VRel.of_pure hw hi hf.1 h1, VsRel.of_pure hw hi hf.2 h2⟩
end
mutual
theorem VRel.lift {S S' : MS} (h0 : S.n = 0) (hw : S'.w = S.w) (hi : ∀ b, S.im b → S'.im b) : ∀ {x : AV} {v : Value}, VRel S x v → VRel S' x v
  | .any, _, _ => trivial
  | .bool _, _, h => h
  | .int _ _, _, h => h
  | .str _, _, h => h
  | .nilS, _, h => h
  | .nul, _, h => h
  | .emp, _, h => h
  | .nilP, _, h => h
  | .nilF, _, h => h
  | .yld _, _, h => h
  | .agg _, _, h => let ⟨vs, hv, hr⟩ := h; ⟨vs, hv, VsRel.lift h0 hw hi hr⟩
  | .tup _, _, h => let ⟨vs, hv, hr⟩ := h; ⟨vs, hv, VsRel.lift h0 hw hi hr⟩
  | .fn _ _, _, h => let ⟨vs, hv, hr⟩ := h; ⟨vs, hv, VsRel.lift h0 hw hi hr⟩
  | .ref .., _, h => by obtain ⟨_, hg, _⟩ := h; omega
  | .ptr .., _, h => by obtain ⟨_, hg, _⟩ := h; omega
  | .map .., _, h => by obtain ⟨_, hg, _⟩ := h; omega
  | .lst wd xs, v, h => by
    obtain ⟨hp, hz, a, cap, vs, hv, hc, hl, hr⟩ := h
    exact ⟨hp, hz, a, cap, vs, hv, hc, VsRel.lift h0 hw hi hl, fun hne => let ⟨b, o, ha, him, hrow⟩ := hr hne; ⟨b, o, ha, hi b him, by rw [hw]; exact hrow⟩⟩
  | .full wd xs, v, h => by
    obtain ⟨hp, hz, a, vs, hv, hc, hl, hr⟩ := h
    exact ⟨hp, hz, a, vs, hv, hc, VsRel.lift h0 hw hi hl, fun hne => let ⟨b, o, ha, him, hrow⟩ := hr hne; ⟨b, o, ha, hi b him, by rw [hw]; exact hrow⟩⟩
  | .cptr x, v, h => by
    obtain ⟨hp, b, o, u, hv, him, hx, hl⟩ := h
    exact ⟨hp, b, o, u, hv, hi b him, VRel.lift h0 hw hi hx, by rw [hw]; exact hl⟩
theorem VsRel.lift {S S' : MS} (h0 : S.n = 0) (hw : S'.w = S.w) (hi : ∀ b, S.im b → S'.im b) : ∀ {xs : List AV} {vs : List Value}, VsRel S xs vs → VsRel S' xs vs
  | [], _, h => h
  | x :: xs, vs, h => by
    obtain ⟨v, r, hv, h1, h2⟩ := h
    exact ⟨v, r, hv, VRel.lift h0 hw hi h1, VsRel.lift h0 hw hi h2⟩
end
def frzV : Nat → AHeap → AV → AV
  | d + 1, H, .ref g _ off len => .lst (H.at_ g).w ((((H.at_ g).xs.drop off).take len).map (frzV d H))
  | d + 1, H, .ptr g _ i o => if o = 0 then .cptr (frzV d H ((H.at_ g).xs.getD i .any)) else .any
  | d + 1, H, .agg cs => .agg (cs.map (frzV d H))
  | d + 1, H, .tup cs => .tup (cs.map (frzV d H))
  | d + 1, H, .fn f cs => .fn f (cs.map (frzV d H))
  | _, _, x => x
def frzOk : Nat → AHeap → AV → Prop
  | d + 1, H, .ref g v off len => (H.at_ g).ver = v ∧ 0 < (H.at_ g).w ∧ off + len ≤ (H.at_ g).xs.length ∧ ∀ y ∈ ((H.at_ g).xs.drop off).take len, frzOk d H y
  | d + 1, H, .ptr g v i o => (H.at_ g).ver = v ∧ i < (H.at_ g).xs.length ∧ 0 < (H.at_ g).w ∧ o = 0 ∧ frzOk d H ((H.at_ g).xs.getD i .any)
  | d + 1, H, .agg cs => ∀ y ∈ cs, frzOk d H y
  | d + 1, H, .tup cs => ∀ y ∈ cs, frzOk d H y
  | d + 1, H, .fn _ cs => ∀ y ∈ cs, frzOk d H y
  | _, _, x => x.pure = true
theorem pureL_mem : ∀ {xs : List AV}, pureL xs = true ↔ ∀ x ∈ xs, x.pure = true
  | [] => by simp [pureL]
  | x :: xs => by simp [pureL, pureL_mem]
theorem frz_pure (H : AHeap) : ∀ (d : Nat) {x : AV}, x.pure = true → frzOk d H x ∧ frzV d H x = x
  | 0, x, h => by cases x <;> exact ⟨h, rfl⟩
  | d + 1, x, h => by
    have key : ∀ cs : List AV, pureL cs = true → (∀ y ∈ cs, frzOk d H y) ∧ cs.map (frzV d H) = cs := fun cs hc => by
      refine ⟨fun y hy => (frz_pure H d (pureL_mem.1 hc y hy)).1, ?_⟩
      have : cs.map (frzV d H) = cs.map id := List.map_congr_left fun y hy => (frz_pure H d (pureL_mem.1 hc y hy)).2
      simpa using this
    cases x with
    | ref => simp [AV.pure] at h
    | ptr => simp [AV.pure] at h
    | map => simp [AV.pure] at h
    | agg cs => obtain ⟨k1, k2⟩ := key cs (by simpa [AV.pure] using h); exact ⟨k1, by simp only [frzV, k2]⟩
    | tup cs => obtain ⟨k1, k2⟩ := key cs (by simpa [AV.pure] using h); exact ⟨k1, by simp only [frzV, k2]⟩
    | fn f cs => obtain ⟨k1, k2⟩ := key cs (by simpa [AV.pure] using h); exact ⟨k1, by simp only [frzV, k2]⟩
    | _ => exact ⟨h, rfl⟩
theorem frzL_pure (H : AHeap) (d : Nat) {xs : List AV} (h : pureL xs = true) : (∀ y ∈ xs, frzOk d H y) ∧ xs.map (frzV d H) = xs := by
  refine ⟨fun y hy => (frz_pure H d (pureL_mem.1 h y hy)).1, ?_⟩
  have : xs.map (frzV d H) = xs.map id := List.map_congr_left fun y hy => (frz_pure H d (pureL_mem.1 h y hy)).2
  simpa using this
def MS.shut (S : MS) (H : AHeap) : MS := { S with n := 0, im := fun b => S.im b ∨ ∃ g, g < H.n ∧ 0 < (H.at_ g).w ∧ 0 < S.cap g ∧ b = S.place g, keep := fun b => S.keep b ∨ ∃ g, g < H.n ∧ (H.at_ g).w = 0 ∧ (H.at_ g).exact = true ∧ b = S.place g }
theorem shut_rel {S : MS} {H : AHeap} (h : SRel S H) : SRel (S.shut H) AHeap.nil where
  n := rfl
  grp g hg := absurd hg (Nat.not_lt_zero _)
  apart g _ hg := absurd hg (Nat.not_lt_zero _)
  im b hb := by
    rcases hb with (hb | ⟨g, hg, hw, hc, rfl⟩) | (hb | ⟨g, hg, hw, he, rfl⟩)
    · exact h.im b (.inl hb)
    · exact (h.grp g hg).lt hw hc
    · exact h.im b (.inr hb)
    · exact (h.grp g hg).mlt hw he
theorem shut_evo {S0 S : MS} {H : AHeap} (e : Evo S0 S) (h0 : S0.n = 0) (h : SRel S H) : Evo S0 (S.shut H) where
  base := e.base
  os := e.os
  tape := e.tape
  output := e.output
  size := e.size
  kept := e.kept
  im b hb := .inl (e.im b hb)
  keep b hb := .inl (e.keep b hb)
  fresh b hb := by
    rcases hb with hb | ⟨g, hg, hw, hc, rfl⟩
    · exact e.fresh b hb
    · exact .inr fun hk => ((h.grp g hg).live hw hc).2 (.inr (e.keep _ hk))
  n := by rw [h0]; exact Nat.le_refl _
  cur g hg := by omega
  same g hg := by omega
theorem frz_ok {S : MS} {H : AHeap} (h : SRel S H) : ∀ (d : Nat) {x : AV} {v : Value}, frzOk d H x → VRel S x v → VRel (S.shut H) (frzV d H x) v ∧ (frzV d H x).pure = true
  | 0, x, v, hf, hv => by
    have hp : x.pure = true := by cases x <;> exact hf
    have he : frzV 0 H x = x := by cases x <;> rfl
    rw [he]
    exact ⟨VRel.of_pure (S := S) (S' := S.shut H) rfl (fun _ hb => .inl hb) hp hv, hp⟩
  | d + 1, x, v, hf, hv => by
    have keyL : ∀ {cs : List AV} {vs : List Value}, (∀ y ∈ cs, frzOk d H y) → VsRel S cs vs → VsRel (S.shut H) (cs.map (frzV d H)) vs ∧ pureL (cs.map (frzV d H)) = true := by
      intro cs
      induction cs with
      | nil => intro vs _ hh; exact ⟨hh, rfl⟩
      | cons c cs ih =>
        intro vs hc hh
        obtain ⟨u, r, rfl, h1, h2⟩ := hh
        obtain ⟨k1, k2⟩ := frz_ok h d (hc c (by simp)) h1
        obtain ⟨k3, k4⟩ := ih (fun y hy => hc y (by simp [hy])) h2
        exact ⟨⟨u, r, rfl, k1, k3⟩, by simp [pureL, k2, k4]⟩
    cases x with
    | ref g vn off len =>
      obtain ⟨h1, h2, h3, h4⟩ := hf
      obtain ⟨_, hg, hc, hp⟩ := hv
      have hG := h.live_of hg
      obtain ⟨a, cap', rfl, hcase⟩ := hp (by rw [hG.ver, h1])
      have hl : ((((H.at_ g).xs.drop off).take len).map (frzV d H)).length = len := by simp; omega
      have hnone : a = none → cap' = 0 := fun hn => by
        rcases hcase with ⟨rfl, _⟩ | ⟨_, hh, _⟩
        · cases hn
        · exact hh
      by_cases hc0 : S.cap g = 0
      · have hlen := hG.len h2
        have hnil : ((H.at_ g).xs.drop off).take len = [] := List.eq_nil_of_length_eq_zero (by simp; omega)
        simp only [frzV, hnil, List.map_nil] at hl ⊢
        exact ⟨⟨rfl, h2, a, cap', [], by rw [← hl], ⟨Nat.zero_le _, hnone⟩, rfl, fun hne => absurd rfl hne⟩, rfl⟩
      obtain ⟨⟨cells, TT, us, hb, hcs, hus, hfl⟩, _⟩ := hG.live h2 (by omega)
      obtain ⟨k1, k2⟩ := keyL h4 ((hus.drop off).take len)
      refine ⟨⟨k2, h2, a, cap', _, by rw [hl], ⟨?_, hnone⟩, k1, fun hne => ?_⟩, k2⟩
      · rw [hl]; rcases hcase with ⟨_, c2, c3⟩ | ⟨c1, c2, _⟩ <;> omega
      · rcases hcase with ⟨rfl, _, _⟩ | ⟨c1, _, _⟩
        · refine ⟨_, _, rfl, .inr ⟨g, by rw [← h.n]; exact hg, h2, by omega, rfl⟩, fun j u hu => ?_⟩
          rw [List.getElem?_take] at hu
          split at hu
          · rw [List.getElem?_drop] at hu
            have := hfl.row hb (off + j) u hu
            rw [Nat.zero_add, Nat.add_mul] at this
            rw [hG.wid]
            exact this
          · cases hu
        · exact absurd (List.eq_nil_of_length_eq_zero (by rw [hl]; exact c1)) hne
    | ptr g vn i o =>
      obtain ⟨h1, h2, h3, h4, h5⟩ := hf
      subst h4
      obtain ⟨_, hg, hc, hp⟩ := hv
      have hG := h.live_of hg
      obtain rfl : v = _ := hp (by rw [hG.ver, h1])
      obtain ⟨u, hu, hl⟩ := hG.elem h3 h2
      obtain ⟨k1, k2⟩ := frz_ok h d h5 hu
      refine ⟨?_, ?_⟩
      · simp only [frzV, if_true]
        refine ⟨k2, S.place g, i * (H.at_ g).w, u, ?_, .inr ⟨g, by rw [← h.n]; exact hg, h3, by have := hG.len h3; omega, rfl⟩, k1, ?_⟩
        · rw [hG.wid]; rfl
        · rw [hl.1]; exact hl
      · simp only [frzV, if_true, AV.pure]; exact k2
    | agg cs => obtain ⟨vs, rfl, hr⟩ := hv; obtain ⟨k1, k2⟩ := keyL hf hr; exact ⟨⟨vs, rfl, k1⟩, by simpa [frzV, AV.pure] using k2⟩
    | tup cs => obtain ⟨vs, rfl, hr⟩ := hv; obtain ⟨k1, k2⟩ := keyL hf hr; exact ⟨⟨vs, rfl, k1⟩, by simpa [frzV, AV.pure] using k2⟩
    | fn f cs => obtain ⟨vs, rfl, hr⟩ := hv; obtain ⟨k1, k2⟩ := keyL hf hr; exact ⟨⟨vs, rfl, k1⟩, by simpa [frzV, AV.pure] using k2⟩
    | any => exact ⟨trivial, rfl⟩
    | bool b => exact ⟨hv, rfl⟩
    | int k n => exact ⟨hv, rfl⟩
    | str s => exact ⟨hv, rfl⟩
    | nilS => exact ⟨hv, rfl⟩
    | nul => exact ⟨hv, rfl⟩
    | emp => exact ⟨hv, rfl⟩
    | nilP => exact ⟨hv, rfl⟩
    | nilF => exact ⟨hv, rfl⟩
    | yld l => exact ⟨hv, rfl⟩
    | full w xs => exact ⟨VRel.of_pure (S := S) (S' := S.shut H) rfl (fun _ hb => .inl hb) hf hv, hf⟩
    | map g v => simp [frzOk, AV.pure] at hf
    | lst w xs => exact ⟨VRel.of_pure (S := S) (S' := S.shut H) rfl (fun _ hb => .inl hb) hf hv, hf⟩
    | cptr x => exact ⟨VRel.of_pure (S := S) (S' := S.shut H) rfl (fun _ hb => .inl hb) hf hv, hf⟩
theorem frzL_ok {S : MS} {H : AHeap} (h : SRel S H) (d : Nat) : ∀ {xs : List AV} {vs : List Value}, (∀ y ∈ xs, frzOk d H y) → VsRel S xs vs → VsRel (S.shut H) (xs.map (frzV d H)) vs
  | [], _, _, hh => hh
  | x :: xs, vs, hc, hh => by
    obtain ⟨u, r, rfl, h1, h2⟩ := hh
    exact ⟨u, r, rfl, (frz_ok h d (hc x (by simp)) h1).1, frzL_ok h d (fun y hy => hc y (by simp [hy])) h2⟩
def PC (P : Program) (f : Nat) (xs : List AV) (y : AV) : Prop := ACalls P f xs AHeap.nil fun z H => z = y ∧ H = AHeap.nil
section
variable {P : Program} {H : AHeap}
def AV.le (x y : AV) : Prop := ∀ (S : MS) (v : Value), VRel S x v → VRel S y v
def leL (xs ys : List AV) : Prop := ∀ (S : MS) (vs : List Value), VsRel S xs vs → VsRel S ys vs
theorem AV.le_refl (x : AV) : AV.le x x := fun _ _ h => h
theorem AV.le_of_eq {x y : AV} (h : x = y) : AV.le x y := h ▸ AV.le_refl x
theorem AV.le_trans {x y z : AV} (h : AV.le x y) (k : AV.le y z) : AV.le x z := fun S v hv => k S v (h S v hv)
theorem leL_nil : leL [] [] := fun _ _ h => h
theorem leL_cons {x y : AV} {xs ys : List AV} (h : AV.le x y) (k : leL xs ys) : leL (x :: xs) (y :: ys) := fun S _ ⟨v, r, hv, h1, h2⟩ => ⟨v, r, hv, h S v h1, k S r h2⟩
theorem AV.le_nilS {w : Nat} (hw : 0 < w) : AV.le .nilS (.lst w []) := fun _ v h => ⟨rfl, hw, none, 0, [], h, ⟨Nat.le_refl 0, fun _ => rfl⟩, rfl, fun hn => absurd rfl hn⟩
theorem AV.le_nul {w : Nat} (hw : 0 < w) : AV.le .nul (.lst w []) := fun _ v ⟨a, h⟩ => ⟨rfl, hw, a, 0, [], h, ⟨Nat.le_refl 0, fun _ => rfl⟩, rfl, fun hn => absurd rfl hn⟩
theorem AV.le_emp {w : Nat} (hw : 0 < w) : AV.le .emp (.lst w []) := fun _ v ⟨a, cap, h⟩ => ⟨rfl, hw, some a, cap, [], h, ⟨Nat.zero_le _, fun hn => by cases hn⟩, rfl, fun hn => absurd rfl hn⟩
theorem AV.le_agg {xs ys : List AV} (h : leL xs ys) : AV.le (.agg xs) (.agg ys) := fun S _ ⟨vs, hv, k⟩ => ⟨vs, hv, h S vs k⟩
theorem AV.le_lst {w : Nat} {xs ys : List AV} (hl : xs.length = ys.length) (hp : pureL ys = true) (h : leL xs ys) : AV.le (.lst w xs) (.lst w ys) := fun S v ⟨_, hw, a, cap, vs, hv, hc, hx, hr⟩ =>
  ⟨hp, hw, a, cap, vs, by rw [← hl]; exact hv, by rw [← hl]; exact hc, h S vs hx, fun hn => hr (fun hh => hn (List.eq_nil_of_length_eq_zero (by rw [← hl, hh]; rfl)))⟩
theorem acalls_le {f : Nat} {xs ys : List AV} {K : AV → AHeap → Prop} (h : leL xs ys) (k : ACalls P f ys H K) : ACalls P f xs H K := ⟨k.1, fun S cargs hS hx => k.2 S cargs hS (h S cargs hx)⟩
theorem pc_le {f : Nat} {xs : List AV} {y : AV} (d : Nat) (h : ACalls P f xs AHeap.nil fun z H => frzOk d H z ∧ AV.le (frzV d H z) y) : PC P f xs y := by
  refine ⟨h.1, fun S cargs hS hx => (h.2 S cargs hS hx).mono fun e w' hh => ?_⟩
  obtain ⟨v, S', x, H', rfl, rfl, ev, hS', hv, h1, h2⟩ := hh
  obtain ⟨k1, _⟩ := frz_ok hS' d h1 hv
  exact ⟨v, S'.shut H', y, AHeap.nil, rfl, rfl, shut_evo ev hS.n hS', shut_rel hS', h2 _ _ k1, rfl, rfl⟩
theorem pc_call {f : Nat} {xs ys : List AV} {y : AV} (h : PC P f ys y) (d : Nat) (hok : ∀ x ∈ xs, frzOk d H x) (hys : xs.map (frzV d H) = ys) (hy : y.flat = true ∨ pureL xs = true) : ACalls P f xs H fun z H' => z = y ∧ H' = H := by
  refine ⟨h.1, fun S cargs hS hx => ?_⟩
  by_cases hp : pureL xs = true
  · have hys' : ys = xs := by rw [← hys]; exact (frzL_pure H d hp).2
    subst hys'
    let S1 : MS := { S with n := 0, keep := fun b => S.keep b ∨ ∃ g, g < H.n ∧ (H.at_ g).has (S.cap g) ∧ b = S.place g }
    have hS1 : SRel S1 AHeap.nil := by
      refine ⟨rfl, fun g hg => absurd hg (Nat.not_lt_zero _), fun g _ hg => absurd hg (Nat.not_lt_zero _), fun b hb => ?_⟩
      rcases hb with hb | hb | ⟨g, hg, hh, rfl⟩
      · exact hS.im b (.inl hb)
      · exact hS.im b (.inr hb)
      · exact (hS.grp g hg).has_lt hh
    refine (h.2 S1 cargs hS1 (VsRel.of_pure (S := S) (S' := S1) rfl (fun _ hb => hb) hp hx)).mono fun e w' hh => ?_
    obtain ⟨v, S2, x, H', rfl, rfl, ev, hS2, hv, rfl, rfl⟩ := hh
    let S' : MS := { S with w := S2.w, im := S2.im }
    have ev' : Evo S S' := by
      refine ⟨rfl, ev.os, ev.tape, ev.output, ev.size, fun b hb => ev.kept b (hb.imp id .inl), ev.im, fun _ hb => hb, fun b hb => ?_, Nat.le_refl _, fun _ _ => Nat.le_refl _, fun _ _ _ => ⟨rfl, rfl, rfl⟩⟩
      exact (ev.fresh b hb).imp id (fun hn hk => hn (.inl hk))
    refine ⟨v, S', x, H, rfl, rfl, ev', ?_, VRel.lift (S := S2) (S' := S') hS2.n rfl (fun _ hb => hb) hv, rfl, rfl⟩
    refine ⟨hS.n, fun g hg => ?_, hS.apart, fun b hb => ?_⟩
    · refine (hS.grp g hg).mono' ev' (by rw [hS.n]; exact hg) rfl (fun hq => ev.kept _ (.inr (.inr ⟨g, hg, hq, rfl⟩))) (fun hq hh => ?_)
      have hni := (hS.grp g hg).has_ni hq
      rcases hh with hh | hh
      · rcases ev.fresh _ hh with h1 | h1
        · exact hni (.inl h1)
        · exact h1 (.inr ⟨g, hg, hq, rfl⟩)
      · exact hni (.inr hh)
    · rcases hb with hb | hb
      · exact hS2.im b (.inl hb)
      · have h1 := hS.im b (.inr hb)
        have h2 : S.w.heap.size ≤ S2.w.heap.size := ev.size
        exact Nat.lt_of_lt_of_le h1 h2
  · have hfl : y.flat = true := hy.resolve_right hp
    have hx1 := frzL_ok hS d hok hx
    rw [hys] at hx1
    refine (h.2 (S.shut H) cargs (shut_rel hS) hx1).mono fun e w' hh => ?_
    obtain ⟨v, S2, x, H', rfl, rfl, ev, hS2, hv, rfl, rfl⟩ := hh
    let S' : MS := { S with w := S2.w }
    have ev' : Evo S S' := ⟨rfl, ev.os, ev.tape, ev.output, ev.size, fun b hb => ev.kept b (hb.imp .inl .inl), fun _ hb => hb, fun _ hb => hb, fun _ hb => .inl hb, Nat.le_refl _, fun _ _ => Nat.le_refl _, fun _ _ _ => ⟨rfl, rfl, rfl⟩⟩
    refine ⟨v, S', x, H, rfl, rfl, ev', ?_, VRel.of_flat hfl hv, rfl, rfl⟩
    refine ⟨hS.n, fun g hg => ?_, hS.apart, fun b hb => ?_⟩
    · refine (hS.grp g hg).mono' ev' (by rw [hS.n]; exact hg) rfl (fun hq => ?_) (fun hq => (hS.grp g hg).has_ni hq)
      rcases hq with ⟨hw, hc⟩ | ⟨hw, he⟩
      · exact ev.kept _ (.inl (.inr ⟨g, hg, hw, hc, rfl⟩))
      · exact ev.kept _ (.inr (.inr ⟨g, hg, hw, he, rfl⟩))
    · have h1 := hS.im b hb
      have h2 : S.w.heap.size ≤ S2.w.heap.size := ev.size
      exact Nat.lt_of_lt_of_le h1 h2
theorem pc_call' {f : Nat} {xs : List AV} {y : AV} (h : PC P f xs y) (hp : pureL xs = true) {K : AV → AHeap → Prop} (hK : K y H) : ACalls P f xs H K :=
  (pc_call h 0 (frzL_pure H 0 hp).1 (frzL_pure H 0 hp).2 (.inr hp)).mono fun _ _ ⟨h1, h2⟩ => by rw [h1, h2]; exact hK
theorem pc_flat {f : Nat} {xs ys : List AV} {y : AV} (h : PC P f ys y) (d : Nat) (hok : ∀ x ∈ xs, frzOk d H x) (hys : xs.map (frzV d H) = ys) (hy : y.flat = true) {K : AV → AHeap → Prop} (hK : K y H) : ACalls P f xs H K :=
  (pc_call h d hok hys (.inl hy)).mono fun _ _ ⟨h1, h2⟩ => by rw [h1, h2]; exact hK
theorem pc {f : Nat} {xs : List AV} {y : AV} {fn : AFn} (hf : compFn P f xs.length = some fn) (d : Nat) (h : T P fn.n 0 fn.body (entry xs) AHeap.nil (Ret P fn.res fun z H => frzOk d H z ∧ AV.le (frzV d H z) y)) : PC P f xs y :=
  pc_le d (acalls hf h)
end
abbrev o0 (d : Nat) (k : AK) : AOp := ⟨some d, [], none, k⟩
abbrev o1 (d a : Nat) (k : AK) : AOp := ⟨some d, [.slot a], none, k⟩
abbrev o2 (d a b : Nat) (k : AK) : AOp := ⟨some d, [.slot a, .slot b], none, k⟩
abbrev o3 (d a b c : Nat) (k : AK) : AOp := ⟨some d, [.slot a, .slot b, .slot c], none, k⟩
abbrev c1 (d : Nat) (x : AV) (k : AK) : AOp := ⟨some d, [.const x], none, k⟩
abbrev c2 (d a : Nat) (x : AV) (k : AK) : AOp := ⟨some d, [.slot a, .const x], none, k⟩
abbrev k0 (d f : Nat) : AOp := ⟨some d, [.const (.fn f [])], none, .call⟩
abbrev k1 (d f a : Nat) : AOp := ⟨some d, [.const (.fn f []), .slot a], none, .call⟩
abbrev k2 (d f a b : Nat) : AOp := ⟨some d, [.const (.fn f []), .slot a, .slot b], none, .call⟩
abbrev k3 (d f a b c : Nat) : AOp := ⟨some d, [.const (.fn f []), .slot a, .slot b, .slot c], none, .call⟩
abbrev g1 (d g a : Nat) (k : AK) : AOp := ⟨some d, [.slot a], some (g, true), k⟩
abbrev g2 (d g a b : Nat) (k : AK) : AOp := ⟨some d, [.slot a, .slot b], some (g, true), k⟩
abbrev n2 (a b : Nat) (k : AK) : AOp := ⟨none, [.slot a, .slot b], none, k⟩
end Go.Proofs.Yticodgjinajkpaa.Abs
set_option linter.unusedSimpArgs false
set_option linter.unusedVariables false
namespace Go.Proofs.Yticodgjinajkpaa.Abs
theorem fput_eval {α : Type} (f : Nat → α) (i : Nat) (y : α) (j : Nat) : fput f i y j = if j = i then y else f j := (rfl)
theorem hput_eval (f : Nat → Grp) (i : Nat) (y : Grp) (j : Nat) : hput f i y j = if j = i then y else f j := (rfl)
theorem put_eval (env : Env) (d : Nat) (x : AV) (j : Nat) : Env.put env (some d) x j = if j = d then x else env j := (rfl)
theorem put_none (env : Env) (x : AV) : Env.put env none x = env := (rfl)
theorem entry_zero (x : AV) (xs : List AV) : entry (x :: xs) 0 = x := (rfl)
theorem entry_succ (x : AV) (xs : List AV) (n : Nat) : entry (x :: xs) (n + 1) = entry xs n := by simp [entry]
theorem slot_eval (env : Env) (t : Nat) : (AArg.slot t).eval env = env t := (rfl)
theorem const_eval (env : Env) (x : AV) : (AArg.const x).eval env = x := (rfl)
theorem guard_eval (b w : Bool) (p q r : Prop) : guardV (.bool b) w p q r = ((b = w → p) ∧ (b = (!w) → q)) := by
  cases b <;> cases w <;> simp [guardV]
theorem guard_none (w : Bool) (p q r : Prop) : guardV (.tup []) w p q r = r := by cases w <;> rfl
theorem optK_some {α : Type} (x : α) (f : α → Prop) : optK (some x) f = f x := (rfl)
def condK (x : AV) (p q : Prop) : Prop := match x with
  | .bool b => (b = true → p) ∧ (b = false → q)
  | _ => False
section
variable {P : Program} {n b : Nat} {env : Env} {H : AHeap} {Q : Ex → Env → AHeap → Prop} {K : Env → AHeap → Prop}
theorem pc_at {f m np : Nat} {xs : List AV} {y : AV} {res : List ARes} {B : AC} (hf : compFn P f xs.length = some ⟨m, np, res, B⟩) (d : Nat) (h : T P m 0 B (entry xs) AHeap.nil (Ret P res fun z H => frzOk d H z ∧ AV.le (frzV d H z) y)) : PC P f xs y := pc hf d h
theorem z28 {K : Env → AHeap → Prop} : Ex.then K Q .normal env H = K env H := (rfl)
theorem z29 {K : Env → AHeap → Prop} : Ex.then K Q .ret env H = Q .ret env H := (rfl)
theorem z30 {K : Env → AHeap → Prop} {id : Nat} : Ex.then K Q (.exit id) env H = Q (.exit id) env H := (rfl)
theorem z31 {id : Nat} : Ex.inBlock id Q .normal env H = Q .normal env H := (rfl)
theorem z32 {id : Nat} : Ex.inBlock id Q .ret env H = Q .ret env H := (rfl)
theorem z33 {id k : Nat} : Ex.inBlock id Q (.exit k) env H = if k = id then Q .normal env H else Q (.exit k) env H := (rfl)
end
end Go.Proofs.Yticodgjinajkpaa.Abs
set_option linter.unusedSimpArgs false
set_option linter.unusedVariables false
namespace Go.Proofs.Yticodgjinajkpaa.Abs
theorem fdiv_of (a b : Int) (h : 0 ≤ b) : a.fdiv b = a / b := Int.fdiv_eq_ediv_of_nonneg a h
theorem toNat_of {n : Int} {k : IntKind} (h : 0 ≤ n ∧ n < 2 ^ k.bits) : (BitVec.ofInt k.bits n).toNat = n.toNat := by
  obtain ⟨m, rfl⟩ := Int.eq_ofNat_of_zero_le h.1
  have h2 : m < 2 ^ k.bits := by
    have := h.2
    exact_mod_cast this
  rw [BitVec.ofInt_natCast, BitVec.toNat_ofNat, Nat.mod_eq_of_lt h2, Int.toNat_natCast]
theorem and_low {x : Int} {k : IntKind} (i : Nat) (h : 0 ≤ x ∧ x < 2 ^ k.bits) (hi : i ≤ k.bits) (hw : k.wrap (x % 2 ^ i) = x % 2 ^ i) : bitsI .and k x (2 ^ i - 1) = x % 2 ^ i := by
  obtain ⟨m, rfl⟩ := Int.eq_ofNat_of_zero_le h.1
  have hp : (0 : Int) < 2 ^ i := by exact_mod_cast Nat.two_pow_pos i
  have hq : (2 : Int) ^ i ≤ 2 ^ k.bits := by exact_mod_cast Nat.pow_le_pow_right (by decide) hi
  show k.wrap (BitVec.ofInt k.bits (m : Int) &&& BitVec.ofInt k.bits (2 ^ i - 1)).toNat = _
  have h2 : ((2 : Int) ^ i - 1).toNat = 2 ^ i - 1 := by
    have : (2 : Int) ^ i - 1 = ((2 ^ i - 1 : Nat) : Int) := by rw [Int.ofNat_sub (Nat.two_pow_pos i)]; simp
    rw [this, Int.toNat_natCast]
  rw [BitVec.toNat_and, toNat_of h, toNat_of ⟨by omega, by omega⟩, h2, Int.toNat_natCast, Nat.and_two_pow_sub_one_eq_mod]
  have : ((m % 2 ^ i : Nat) : Int) = (m : Int) % 2 ^ i := by simp
  rw [this, hw]
open IntWalk
end Go.Proofs.Yticodgjinajkpaa.Abs
set_option linter.unusedSimpArgs false
set_option linter.unusedVariables false
namespace Go.Proofs.Yticodgjinajkpaa.Abs
def Grp.dead (G : Grp) : Grp := ⟨0, G.ver + 1, false, []⟩
def AHeap.kill (H : AHeap) (ks : List Nat) : AHeap := ⟨H.n, fun g => if g ∈ ks then (H.at_ g).dead else H.at_ g⟩
def AHeap.only (H : AHeap) (ks : List Nat) : AHeap := ⟨H.n, fun g => if g ∈ ks then H.at_ g else (H.at_ g).dead⟩
def MS.only (S : MS) (ks : List Nat) : MS := { S with cur := fun g => if g ∈ ks then S.cur g else S.cur g + 1, wid := fun g => if g ∈ ks then S.wid g else 0 }
def MS.kill (S : MS) (H : AHeap) (ks : List Nat) : MS := { S with
  im := fun b => S.im b ∨ ∃ g, g < H.n ∧ g ∈ ks ∧ 0 < (H.at_ g).w ∧ 0 < S.cap g ∧ b = S.place g
  cur := fun g => if g ∈ ks then S.cur g + 1 else S.cur g
  wid := fun g => if g ∈ ks then 0 else S.wid g }
section
variable {S : MS} {H : AHeap} (ks : List Nat)
theorem only_evo : Evo S (S.only ks) := by
  refine ⟨rfl, rfl, rfl, rfl, Nat.le_refl _, fun _ _ => rfl, fun _ h => h, fun _ h => h, fun _ h => .inl h, Nat.le_refl _, fun g _ => ?_, fun g _ hc => ?_⟩
  · show S.cur g ≤ if g ∈ ks then S.cur g else S.cur g + 1
    split <;> omega
  · have hc' : (if g ∈ ks then S.cur g else S.cur g + 1) = S.cur g := hc
    refine ⟨rfl, rfl, ?_⟩
    show (if g ∈ ks then S.wid g else 0) = S.wid g
    by_cases h : g ∈ ks
    · rw [if_pos h]
    · rw [if_neg h] at hc'; omega
theorem dead_rel {S' : MS} {G : Grp} {g : Nat} (h1 : S'.cur g = G.ver + 1) (h2 : S'.wid g = 0) : GRel S' G.dead g := ⟨h1, h2, fun h => absurd h (Nat.lt_irrefl _), fun h => absurd h (Nat.lt_irrefl _), fun h => absurd h (Nat.lt_irrefl _), fun _ h => by cases h⟩
theorem dead_has {G : Grp} {c : Nat} : ¬ G.dead.has c := by
  rintro (⟨h, _⟩ | ⟨_, h⟩)
  · exact absurd h (Nat.lt_irrefl _)
  · cases h
theorem only_rel (h : SRel S H) : SRel (S.only ks) (H.only ks) where
  n := h.n
  grp g hg := by
    have hG := h.grp g hg
    by_cases hk : g ∈ ks
    · have e1 : (H.only ks).at_ g = H.at_ g := by show (if g ∈ ks then _ else _) = _; rw [if_pos hk]
      have e2 : (S.only ks).cur g = S.cur g := by show (if g ∈ ks then _ else _) = _; rw [if_pos hk]
      have e3 : (S.only ks).wid g = S.wid g := by show (if g ∈ ks then _ else _) = _; rw [if_pos hk]
      rw [e1]
      refine ⟨e2.trans hG.ver, e3.trans hG.wid, fun hw hc => ?_, hG.len, hG.full, fun hw he => ?_⟩
      · obtain ⟨⟨cells, T, vs, a1, a2, a3, a4⟩, b⟩ := hG.live hw hc
        exact ⟨⟨cells, T, vs, a1, a2, VsRel.mono (only_evo ks) _ a3, a4⟩, b⟩
      · obtain ⟨⟨es, clock, a1, a2⟩, b⟩ := hG.mlive hw he
        exact ⟨⟨es, clock, a1, VsRel.mono (only_evo ks) _ a2⟩, b⟩
    · have e1 : (H.only ks).at_ g = (H.at_ g).dead := by show (if g ∈ ks then _ else _) = _; rw [if_neg hk]
      have e2 : (S.only ks).cur g = S.cur g + 1 := by show (if g ∈ ks then _ else _) = _; rw [if_neg hk]
      have e3 : (S.only ks).wid g = 0 := by show (if g ∈ ks then _ else _) = _; rw [if_neg hk]
      rw [e1]
      exact dead_rel (by rw [e2, hG.ver]) e3
  apart g g' hg hg' hne hw hw' := by
    have key : ∀ g, ((H.only ks).at_ g).has (S.cap g) → (H.at_ g).has (S.cap g) := fun g hw => by
      have : (if g ∈ ks then H.at_ g else (H.at_ g).dead).has (S.cap g) := hw
      split at this
      · exact this
      · exact absurd this dead_has
    exact h.apart g g' hg hg' hne (key g hw) (key g' hw')
  im := h.im
theorem kill_evo (h : SRel S H) : Evo S (S.kill H ks) := by
  refine ⟨rfl, rfl, rfl, rfl, Nat.le_refl _, fun _ _ => rfl, fun _ h => .inl h, fun _ h => h, fun b hb => ?_, Nat.le_refl _, fun g _ => ?_, fun g _ hc => ?_⟩
  · rcases hb with hb | ⟨g, hg, _, hw, hc, rfl⟩
    · exact .inl hb
    · exact .inr fun hk => ((h.grp g hg).live hw hc).2 (.inr hk)
  · show S.cur g ≤ if g ∈ ks then S.cur g + 1 else S.cur g
    split <;> omega
  · have hc' : (if g ∈ ks then S.cur g + 1 else S.cur g) = S.cur g := hc
    refine ⟨rfl, rfl, ?_⟩
    show (if g ∈ ks then 0 else S.wid g) = S.wid g
    by_cases h : g ∈ ks
    · rw [if_pos h] at hc'; omega
    · rw [if_neg h]
theorem kill_rel (h : SRel S H) : SRel (S.kill H ks) (H.kill ks) where
  n := h.n
  grp g hg := by
    have hG := h.grp g hg
    by_cases hk : g ∈ ks
    · have e1 : (H.kill ks).at_ g = (H.at_ g).dead := by show (if g ∈ ks then _ else _) = _; rw [if_pos hk]
      have e2 : (S.kill H ks).cur g = S.cur g + 1 := by show (if g ∈ ks then _ else _) = _; rw [if_pos hk]
      have e3 : (S.kill H ks).wid g = 0 := by show (if g ∈ ks then _ else _) = _; rw [if_pos hk]
      rw [e1]
      exact dead_rel (by rw [e2, hG.ver]) e3
    · have e1 : (H.kill ks).at_ g = H.at_ g := by show (if g ∈ ks then _ else _) = _; rw [if_neg hk]
      have e2 : (S.kill H ks).cur g = S.cur g := by show (if g ∈ ks then _ else _) = _; rw [if_neg hk]
      have e3 : (S.kill H ks).wid g = S.wid g := by show (if g ∈ ks then _ else _) = _; rw [if_neg hk]
      rw [e1]
      have hni : (H.at_ g).has (S.cap g) → ¬ ((S.kill H ks).im (S.place g) ∨ (S.kill H ks).keep (S.place g)) := fun hq => by
        have b3 := hG.has_ni hq
        rintro ((hi | ⟨g', hg', hk', hw', hc', he⟩) | hi)
        · exact b3 (.inl hi)
        · exact h.apart g g' hg hg' (fun hgg => hk (hgg ▸ hk')) hq (.inl ⟨hw', hc'⟩) he
        · exact b3 (.inr hi)
      refine ⟨e2.trans hG.ver, e3.trans hG.wid, fun hw hc => ?_, hG.len, hG.full, fun hw he => ?_⟩
      · obtain ⟨⟨cells, T, vs, a1, a2, a3, a4⟩, b3⟩ := hG.live hw hc
        exact ⟨⟨cells, T, vs, a1, a2, VsRel.mono (kill_evo ks h) _ a3, a4⟩, hni (.inl ⟨hw, hc⟩)⟩
      · obtain ⟨⟨es, clock, a1, a2⟩, b3⟩ := hG.mlive hw he
        exact ⟨⟨es, clock, a1, VsRel.mono (kill_evo ks h) _ a2⟩, hni (.inr ⟨hw, he⟩)⟩
  apart g g' hg hg' hne hw hw' := by
    have key : ∀ g, ((H.kill ks).at_ g).has (S.cap g) → (H.at_ g).has (S.cap g) := fun g hw => by
      have : (if g ∈ ks then (H.at_ g).dead else H.at_ g).has (S.cap g) := hw
      split at this
      · exact absurd this dead_has
      · exact this
    exact h.apart g g' hg hg' hne (key g hw) (key g' hw')
  im b hb := by
    rcases hb with (hb | ⟨g, hg, _, hw, hc, rfl⟩) | hb
    · exact h.im b (.inl hb)
    · exact (h.grp g hg).lt hw hc
    · exact h.im b (.inr hb)
theorem frz_kill (h : SRel S H) (d : Nat) {x : AV} {v : Value} (hok : frzOk d (H.only ks) x) (hv : VRel S x v) : VRel (S.kill H ks) (frzV d (H.only ks) x) v := by
  obtain ⟨k1, k2⟩ := frz_ok (only_rel ks h) d hok (VRel.mono (only_evo ks) _ hv)
  refine VRel.of_pure (S := (S.only ks).shut (H.only ks)) (S' := S.kill H ks) rfl (fun b hb => ?_) k2 k1
  rcases hb with hb | ⟨g, hg, hw, hc, rfl⟩
  · exact .inl hb
  · have hw' : 0 < (if g ∈ ks then H.at_ g else (H.at_ g).dead).w := hw
    split at hw'
    · rename_i hk; exact .inr ⟨g, hg, hk, hw', hc, rfl⟩
    · exact absurd hw' (Nat.lt_irrefl _)
theorem frzL_kill (h : SRel S H) (d : Nat) : ∀ {xs : List AV} {vs : List Value}, (∀ y ∈ xs, frzOk d (H.only ks) y) → VsRel S xs vs → VsRel (S.kill H ks) (xs.map (frzV d (H.only ks))) vs
  | [], _, _, hh => hh
  | x :: xs, vs, hc, hh => by
    obtain ⟨u, r, rfl, h1, h2⟩ := hh
    exact ⟨u, r, rfl, frz_kill ks h d (hc x (by simp)) h1, frzL_kill h d (fun y hy => hc y (by simp [hy])) h2⟩
end
theorem acalls_freeze {P : Program} {f : Nat} {xs : List AV} {H : AHeap} {K : AV → AHeap → Prop} (d : Nat) (ks : List Nat) (hok : ∀ x ∈ xs, frzOk d (H.only ks) x) (h : ACalls P f (xs.map (frzV d (H.only ks))) (H.kill ks) K) : ACalls P f xs H K := by
  refine ⟨h.1, fun S cargs hS hx => (h.2 (S.kill H ks) cargs (kill_rel ks hS) (frzL_kill ks hS d hok hx)).mono fun e w' hh => ?_⟩
  obtain ⟨v, S', x, H', rfl, rfl, ev, hS', hv, hK⟩ := hh
  exact ⟨v, S', x, H', rfl, rfl, (kill_evo ks hS).trans ev, hS', hv, hK⟩
theorem dead_eq (G : Grp) : G.dead = ⟨0, G.ver + 1, false, []⟩ := (rfl)
theorem kill_n (H : AHeap) (ks : List Nat) : (H.kill ks).n = H.n := (rfl)
theorem only_n (H : AHeap) (ks : List Nat) : (H.only ks).n = H.n := (rfl)
attribute [push_cast] slot_eval const_eval put_none fput_eval hput_eval entry_zero entry_succ guard_eval guard_none optK_some z28 z29 z30 z31 z32 z33 kill_n only_n dead_eq
attribute [push_cast] List.map_cons List.map_nil List.drop_zero List.drop_succ_cons List.take_succ_cons List.take_zero List.drop_nil List.take_nil List.length_cons List.length_nil List.getD_cons_zero List.getD_cons_succ List.set_cons_zero List.set_cons_succ Option.getD_some Option.getD_none List.length_set List.append_assoc List.nil_append List.append_nil List.cons_append List.getElem?_cons_zero List.getElem?_cons_succ List.forall_mem_cons List.not_mem_nil List.length_map Bool.false_eq_true Bool.true_eq_false false_implies true_implies forall_const true_and and_true false_and and_false cond_true cond_false Bool.not_true Bool.not_false decide_eq_true_eq decide_eq_false_iff_not not_false_eq_true not_true_eq_false imp_false Nat.lt_irrefl Nat.le_refl Nat.zero_add Nat.add_zero Nat.zero_lt_succ Nat.lt_add_one implies_true decide_true decide_false Bool.not_eq_true Bool.not_eq_false Bool.not_eq_true' Bool.not_eq_false' eq_self Bool.and_self Bool.and_true Bool.true_and Bool.and_false Bool.false_and Bool.or_true Bool.true_or Bool.or_false Bool.false_or ne_eq Int.natCast_nonneg Int.toNat_natCast or_self true_or or_true false_or or_false and_self Int.cast_ofNat_Int if_true if_false
end Go.Proofs.Yticodgjinajkpaa.Abs
set_option linter.unusedSimpArgs false
set_option linter.unusedVariables false
namespace Go.Proofs.Yticodgjinajkpaa.Abs
open Go.RowKit
def MS.start (w : World) : MS := ⟨w, fun b => b < w.heap.size, fun _ => False, 0, fun _ => 0, fun _ => 0, fun _ => 0, fun _ => 0, 0⟩
theorem start_rel (w : World) : SRel (MS.start w) AHeap.nil :=
  ⟨rfl, fun g hg => absurd hg (Nat.not_lt_zero _), fun g _ hg => absurd hg (Nat.not_lt_zero _), fun b hb => hb.elim id False.elim⟩
theorem PC.below {P : Program} {f : Nat} {xs : List AV} {b : Bool} (h : PC P f xs (.bool b)) {w : World} {cargs : List Value} (hx : VsRel (MS.start w) xs cargs) :
    Calls P f cargs.toArray w fun e w' => e = .returned (.bool b) ∧ Below w.heap.size w w' := by
  refine (h.2 (MS.start w) cargs (start_rel w) hx).mono fun e w' hh => ?_
  obtain ⟨v, S', x, H', rfl, rfl, ev, _, hv, rfl, _⟩ := hh
  have hv' : v = .bool b := hv
  subst hv'
  exact ⟨rfl, ev.os, ev.tape, ev.output, ev.size, fun k hk => ev.kept k (.inl hk)⟩
theorem cell_block {w : World} {a : Addr} {v : Value} (h : w.cell? a = some v) : a.block < w.heap.size := by
  unfold World.cell? at h
  split at h
  · rename_i hb; exact (Array.getElem?_eq_some_iff.1 hb).1
  · cases h
end Go.Proofs.Yticodgjinajkpaa.Abs
set_option linter.unusedSimpArgs false
set_option linter.unusedVariables false
namespace Go.Proofs.Yticodgjinajkpaa.Abs
class HK where
  f : AV → AHeap → Prop
class HQ where
  f : AV → Prop
class HP where
  p : Prop
class HY where
  y : AV
def CallK (P : Program) (f : Nat) (xs : List AV) (H : AHeap) [K : HK] : Prop := ACalls P f xs H K.f
def CallQ (P : Program) (f : Nat) (xs : List AV) (H : AHeap) [K : HQ] : Prop := ∃ y, ACalls P f xs H (fun z H' => z = y ∧ H' = H) ∧ K.f y
def LoopK [L : HP] : Prop := L.p
def opK (P : Program) : AK → AHeap → List AV → [HK] → Prop
  | .call, H, .fn f caps :: xs, K => CallK P f (xs ++ caps) H
  | k, H, xs, K => stepA P k H xs K.f
def opQ (P : Program) : AK → AHeap → List AV → [HQ] → Prop
  | .call, H, .fn f caps :: xs, K => CallQ P f (xs ++ caps) H
  | .bslice w len z idx, H, xs, K => FitAll w len idx xs ∧ 0 < w ∧ pureL (setAll idx xs (List.replicate len z)) = true ∧ K.f (.full w (setAll idx xs (List.replicate len z)))
  | k, H, xs, K => k.still = true ∧ stepA P k H xs fun x _ => K.f x
def guardW (x : AV) (w : Bool) [p : HP] [q : HP] [r : HP] : Prop := guardV x w p.p q.p r.p
def wk (P : Program) : List AOp → Env → AHeap → (Env → AHeap → Prop) → Prop
  | [], env, H, K => K env H
  | ⟨dst, args, none, k⟩ :: l, env, H, K => @opK P k H (args.map (·.eval env)) ⟨fun x H' => wk P l (env.put dst x) H' K⟩
  | ⟨dst, args, some (d, want), k⟩ :: l, env, H, K => @guardW (env d) want
      ⟨@opK P k H (args.map (·.eval (env.put (some d) (.bool want)))) ⟨fun x H' => wk P l ((env.put (some d) (.bool want)).put dst x) H' K⟩⟩
      ⟨wk P l ((env.put (some d) (.bool (!want))).put dst (.tup [])) H K⟩ ⟨wk P l (env.put dst (.tup [])) H K⟩
def qk (P : Program) (H : AHeap) : List AOp → Env → (Env → Prop) → Prop
  | [], env, K => K env
  | ⟨dst, args, none, k⟩ :: l, env, K => @opQ P k H (args.map (·.eval env)) ⟨fun x => qk P H l (env.put dst x) K⟩
  | ⟨dst, args, some (d, want), k⟩ :: l, env, K => @guardW (env d) want
      ⟨@opQ P k H (args.map (·.eval (env.put (some d) (.bool want)))) ⟨fun x => qk P H l ((env.put (some d) (.bool want)).put dst x) K⟩⟩
      ⟨qk P H l ((env.put (some d) (.bool (!want))).put dst (.tup [])) K⟩ ⟨qk P H l (env.put dst (.tup [])) K⟩
class HG where
  f : AV → List Grp → Prop
def CallG (P : Program) (f : Nat) (xs : List AV) (l : List Grp) [K : HG] : Prop := ∃ y, (∀ H, ACalls P f xs H fun z H' => z = y ∧ H' = H) ∧ K.f y l
def opG (P : Program) : AK → List Grp → List AV → [HG] → Prop
  | .call, l, .fn f caps :: xs, K => CallG P f (xs ++ caps) l
  | .bslice w len z idx, l, xs, K => FitAll w len idx xs ∧ 0 < w ∧ pureL (setAll idx xs (List.replicate len z)) = true ∧ K.f (.full w (setAll idx xs (List.replicate len z))) l
  | k, l, xs, K => (k.still = true ∧ onRefs (· < l.length) xs ∧ stepA P k (hl l) xs fun x _ => K.f x l) ∨ (k.still = false ∧ k.eff.isSome = true ∧ k.appOk = true ∧ offOk k xs ∧ stepA P k (hl l) xs fun x H' => ∀ l', H' = hl l' → K.f x l')
def gk (P : Program) : List AOp → Env → List Grp → (Env → List Grp → Prop) → Prop
  | [], env, l, K => K env l
  | ⟨dst, args, none, k⟩ :: r, env, l, K => @opG P k l (args.map (·.eval env)) ⟨fun x l' => gk P r (env.put dst x) l' K⟩
  | ⟨dst, args, some (d, want), k⟩ :: r, env, l, K => @guardW (env d) want
      ⟨@opG P k l (args.map (·.eval (env.put (some d) (.bool want)))) ⟨fun x l' => gk P r ((env.put (some d) (.bool want)).put dst x) l' K⟩⟩
      ⟨gk P r ((env.put (some d) (.bool (!want))).put dst (.tup [])) l K⟩ ⟨gk P r (env.put dst (.tup [])) l K⟩
def condW (x : AV) [p : HP] [q : HP] : Prop := condK x p.p q.p
def W (P : Program) (n b : Nat) : AC → Env → AHeap → (Ex → Env → AHeap → Prop) → Prop
  | .skip, env, H, Q => Q .normal env H
  | .reg ops, env, H, Q => wk P ops env H fun env' H' => Q .normal env' H'
  | .dreg ops, env, H, Q => qk P H ops env fun env' => Q .normal env' H
  | .dtl pre post, env, H, Q => qk P H pre env fun env' => wk P post env' H fun env' H' => Q .normal env' H'
  | .greg ops, env, H, Q => ∃ l, H = hl l ∧ gk P ops env l fun env' l' => Q .normal env' (hl l')
  | .grx fl ops, env, H, Q => @LoopK ⟨T P n b (.grx fl ops) env H Q⟩
  | .seq x y, env, H, Q => W P n b x env H (Ex.then (fun env' H' => W P n b y env' H' Q) Q)
  | .cond c x y, env, H, Q => @condW (c.eval env) ⟨W P n b x env H Q⟩ ⟨W P n b y env H Q⟩
  | .block id c, env, H, Q => W P n b c env H (Ex.inBlock id Q)
  | .loop c, env, H, Q => @LoopK ⟨T P n b (.loop c) env H Q⟩
  | .rng f ps a c, env, H, Q => @LoopK ⟨T P n b (.rng f ps a c) env H Q⟩
  | .exit id, env, H, Q => Q (.exit id) env H
  | .ret, env, H, Q => Q .ret env H
section
variable {P : Program} {n b : Nat} {env : Env} {H : AHeap} {Q : Ex → Env → AHeap → Prop} {K : Env → AHeap → Prop}
theorem opK_eq (P : Program) (k : AK) (H : AHeap) (xs : List AV) (K : AV → AHeap → Prop) : @opK P k H xs ⟨K⟩ = stepA P k H xs K := by
  unfold opK
  split <;> rfl
theorem opQ_eq (P : Program) (k : AK) (H : AHeap) (xs : List AV) (K : AV → Prop) : @opQ P k H xs ⟨K⟩ = quietA P k H xs K := by
  unfold opQ quietA
  split
  · rfl
  · rfl
  · rename_i h1 h2
    split
    · rename_i f caps ys; exact absurd rfl (h2 f caps ys rfl)
    · rename_i w len z idx; exact absurd rfl (h1 w len z idx)
    · rfl
theorem wk_eq (P : Program) : ∀ (l : List AOp) (env : Env) (H : AHeap) (K : Env → AHeap → Prop), wk P l env H K = runK P l env H K
  | [], _, _, _ => rfl
  | ⟨dst, args, none, k⟩ :: l, env, H, K => by
    have h : (fun x H' => wk P l (env.put dst x) H' K) = fun x H' => runK P l (env.put dst x) H' K := funext fun x => funext fun H' => wk_eq P l _ H' K
    show @opK P k H (args.map (·.eval env)) ⟨_⟩ = _
    rw [h, opK_eq]
    rfl
  | ⟨dst, args, some (d, want), k⟩ :: l, env, H, K => by
    have h : ∀ env : Env, (fun x H' => wk P l (env.put dst x) H' K) = fun x H' => runK P l (env.put dst x) H' K := fun env => funext fun x => funext fun H' => wk_eq P l _ H' K
    show @guardW (env d) want ⟨@opK P k H _ ⟨_⟩⟩ ⟨_⟩ ⟨_⟩ = _
    rw [h, opK_eq, wk_eq, wk_eq]
    rfl
theorem qk_eq (P : Program) (H : AHeap) : ∀ (l : List AOp) (env : Env) (K : Env → Prop), qk P H l env K = runQ P H l env K
  | [], _, _ => rfl
  | ⟨dst, args, none, k⟩ :: l, env, K => by
    have h : (fun x => qk P H l (env.put dst x) K) = fun x => runQ P H l (env.put dst x) K := funext fun x => qk_eq P H l _ K
    show @opQ P k H (args.map (·.eval env)) ⟨_⟩ = _
    rw [h, opQ_eq]
    rfl
  | ⟨dst, args, some (d, want), k⟩ :: l, env, K => by
    have h : ∀ env : Env, (fun x => qk P H l (env.put dst x) K) = fun x => runQ P H l (env.put dst x) K := fun env => funext fun x => qk_eq P H l _ K
    show @guardW (env d) want ⟨@opQ P k H _ ⟨_⟩⟩ ⟨_⟩ ⟨_⟩ = _
    rw [h, opQ_eq, qk_eq, qk_eq]
    rfl
theorem still_eff {k : AK} (h : k.still = true) : k.eff = none := by
  cases k <;> first | rfl | (simp [AK.still] at h)
theorem opG_run {k : AK} {l : List Grp} {xs : List AV} {K : AV → List Grp → Prop} (h : @opG P k l xs ⟨K⟩) : if k.eff.isNone then ∃ x, QG P k l xs x ∧ K x l else ∃ x l', stepA P k (hl l) xs (fun y H' => y = x ∧ H' = hl l') ∧ Comm P k l l' ∧ K x l' := by
  unfold opG at h
  split at h
  · obtain ⟨y, h1, h2⟩ := h
    exact ⟨y, .inl ⟨_, _, _, rfl, rfl, h1⟩, h2⟩
  · exact ⟨_, .inr (.inl ⟨_, _, _, _, rfl, h.1, h.2.1, h.2.2.1, rfl⟩), h.2.2.2⟩
  · rcases h with ⟨h1, h2, h3⟩ | ⟨_, h2, ha, ho, h3⟩
    · rw [still_eff h1]
      obtain ⟨x, h4, h5⟩ := still_one h1 h3
      refine ⟨x, .inr (.inr ⟨h1, h2, ?_⟩), h5⟩
      exact still_mono h1 (fun _ _ hh => hh.1) h4
    · obtain ⟨e, he⟩ := Option.isSome_iff_exists.1 h2
      rw [if_neg (by rw [he]; simp)]
      obtain ⟨x, l', b1, b2, b3⟩ := eff_one he ha ho h3
      exact ⟨x, l', b1, b3, b2 l' rfl⟩
theorem guardV_mono {x : AV} {w : Bool} {p q r p' q' r' : Prop} (hp : p → p') (hq : q → q') (hr : r → r') (h : guardV x w p q r) : guardV x w p' q' r' := by
  unfold guardV at h ⊢
  split at h <;> first | exact hp h | exact hq h | exact hr h | exact h.elim
theorem gk_run (P : Program) : ∀ (L : List AOp) (env : Env) (l : List Grp) {K : Env → List Grp → Prop}, gk P L env l K → runG P L env l K
  | [], _, _, _, h => h
  | ⟨dst, args, none, k⟩ :: r, env, l, K, h => by
    have h' : @opG P k l (args.map (·.eval env)) ⟨fun x l' => gk P r (env.put dst x) l' K⟩ := h
    have := opG_run h'
    simp only [runG, guardK, AOp.vals, if_true]
    split at this
    · rename_i he
      rw [if_pos he]
      obtain ⟨x, h1, h2⟩ := this
      exact ⟨x, h1, gk_run P r _ _ h2⟩
    · rename_i he
      rw [if_neg he]
      obtain ⟨x, l', b1, b2, b3⟩ := this
      exact ⟨x, l', b1, b2, gk_run P r _ _ b3⟩
  | ⟨dst, args, some (d, want), k⟩ :: r, env, l, K, h => by
    have h' : guardV (env d) want (@opG P k l (args.map (·.eval (env.put (some d) (.bool want)))) ⟨fun x l' => gk P r ((env.put (some d) (.bool want)).put dst x) l' K⟩)
      (gk P r ((env.put (some d) (.bool (!want))).put dst (.tup [])) l K) (gk P r (env.put dst (.tup [])) l K) := h
    simp only [runG, guardK, AOp.vals, if_true, Bool.false_eq_true, if_false]
    refine guardV_mono (fun h1 => ?_) (fun h1 => gk_run P r _ _ h1) (fun h1 => gk_run P r _ _ h1) h'
    have := opG_run h1
    split at this
    · rename_i he
      obtain ⟨x, h1, h2⟩ := this
      rw [if_pos he]
      exact ⟨x, h1, gk_run P r _ _ h2⟩
    · rename_i he
      rw [if_neg he]
      obtain ⟨x, l', b1, b2, b3⟩ := this
      exact ⟨x, l', b1, b2, gk_run P r _ _ b3⟩
theorem hl_inj {l l' : List Grp} (h : hl l = hl l') : l = l' := by
  have h1 : l.length = l'.length := congrArg AHeap.n h
  refine List.ext_getElem h1 fun i hi hi' => ?_
  have h2 : (hl l).at_ i = (hl l').at_ i := by rw [h]
  rw [hl_at, hl_at] at h2
  simpa [List.getD, hi, hi'] using h2
theorem W_T : ∀ {c : AC} {env : Env} {H : AHeap} {Q : Ex → Env → AHeap → Prop}, W P n b c env H Q → T P n b c env H Q
  | .skip, _, _, _, h => T_skip h
  | .reg ops, env, H, Q, h => T_reg (by have h' : wk P ops env H _ := h; rwa [wk_eq] at h')
  | .dreg ops, env, H, Q, h => T_dreg (by have h' : qk P H ops env _ := h; rwa [qk_eq] at h')
  | .dtl pre post, env, H, Q, h => T_dtl (by
    have h' : qk P H pre env _ := h
    rw [qk_eq] at h'
    have e : (fun env' => wk P post env' H fun env' H' => Q .normal env' H') = fun env' => runK P post env' H fun env' H' => Q .normal env' H' := funext fun env' => wk_eq P post env' H _
    rwa [e] at h')
  | .greg ops, env, H, Q, h => by
    obtain ⟨l, rfl, h'⟩ := h
    exact T_greg (gk_run P ops env l h')
  | .grx .., _, _, _, h => h
  | .seq x y, _, _, _, h => T_seq (T.mono (W_T (c := x) h) fun z env H hh => by cases z <;> first | exact W_T (c := y) hh | exact hh)
  | .cond c x y, env, H, Q, h => by
    have h' : condK (c.eval env) (W P n b x env H Q) (W P n b y env H Q) := h
    unfold condK at h'
    split at h'
    · rename_i q hq; exact T_cond hq (fun hb => W_T (h'.1 hb)) (fun hb => W_T (h'.2 hb))
    · exact h'.elim
  | .block id c, _, _, _, h => T_block (W_T (c := c) h)
  | .loop c, _, _, _, h => h
  | .rng .., _, _, _, h => h
  | .exit id, _, _, _, h => T_exit h
  | .ret, _, _, _, h => T_ret h
end
section
variable {P : Program} {n b : Nat} {env : Env} {H : AHeap} {Q : Ex → Env → AHeap → Prop} {K : Env → AHeap → Prop}
theorem z1 : W P n b .skip env H Q = Q .normal env H := (rfl)
theorem z2 {ops : List AOp} : W P n b (.reg ops) env H Q = wk P ops env H fun env' H' => Q .normal env' H' := (rfl)
theorem z3 {ops : List AOp} : W P n b (.dreg ops) env H Q = qk P H ops env fun env' => Q .normal env' H := (rfl)
theorem z4 {pre post : List AOp} : W P n b (.dtl pre post) env H Q = qk P H pre env fun env' => wk P post env' H fun env' H' => Q .normal env' H' := (rfl)
theorem z5 {ops : List AOp} {l : List Grp} : W P n b (.greg ops) env (hl l) Q = gk P ops env l fun env' l' => Q .normal env' (hl l') :=
  propext ⟨fun ⟨l', h1, h2⟩ => by rw [← hl_inj h1] at h2; exact h2, fun h => ⟨l, rfl, h⟩⟩
theorem z18 {l : List Grp} {K : Env → List Grp → Prop} : gk P [] env l K = K env l := (rfl)
theorem z19 {l : List Grp} {K : Env → List Grp → Prop} {dst : Option Nat} {args : List AArg} {k : AK} {r : List AOp} : gk P (⟨dst, args, none, k⟩ :: r) env l K = @opG P k l (args.map (·.eval env)) ⟨fun x l' => gk P r (env.put dst x) l' K⟩ := (rfl)
theorem z20 {l : List Grp} {K : Env → List Grp → Prop} {dst : Option Nat} {args : List AArg} {k : AK} {r : List AOp} {d : Nat} {want : Bool} : gk P (⟨dst, args, some (d, want), k⟩ :: r) env l K = @guardW (env d) want
      ⟨@opG P k l (args.map (·.eval (env.put (some d) (.bool want)))) ⟨fun x l' => gk P r ((env.put (some d) (.bool want)).put dst x) l' K⟩⟩
      ⟨gk P r ((env.put (some d) (.bool (!want))).put dst (.tup [])) l K⟩ ⟨gk P r (env.put dst (.tup [])) l K⟩ := (rfl)
theorem z6 {x y : AC} : W P n b (.seq x y) env H Q = W P n b x env H (Ex.then (fun env' H' => W P n b y env' H' Q) Q) := (rfl)
theorem z7 {c : AArg} {x y : AC} : W P n b (.cond c x y) env H Q = @condW (c.eval env) ⟨W P n b x env H Q⟩ ⟨W P n b y env H Q⟩ := (rfl)
theorem z8 {id : Nat} {c : AC} : W P n b (.block id c) env H Q = W P n b c env H (Ex.inBlock id Q) := (rfl)
theorem z9 {c : AC} : W P n b (.loop c) env H Q = @LoopK ⟨T P n b (.loop c) env H Q⟩ := (rfl)
theorem z34 {f : AArg} {ps : List Nat} {a c : AC} : W P n b (.rng f ps a c) env H Q = @LoopK ⟨T P n b (.rng f ps a c) env H Q⟩ := (rfl)
theorem z35 {fl : List Bool} {ops : List AOp} : W P n b (.grx fl ops) env H Q = @LoopK ⟨T P n b (.grx fl ops) env H Q⟩ := (rfl)
theorem z10 {id : Nat} : W P n b (.exit id) env H Q = Q (.exit id) env H := (rfl)
theorem z11 : W P n b .ret env H Q = Q .ret env H := (rfl)
theorem z12 : wk P [] env H K = K env H := (rfl)
theorem z13 {dst : Option Nat} {args : List AArg} {k : AK} {l : List AOp} : wk P (⟨dst, args, none, k⟩ :: l) env H K = @opK P k H (args.map (·.eval env)) ⟨fun x H' => wk P l (env.put dst x) H' K⟩ := (rfl)
theorem z14 {dst : Option Nat} {args : List AArg} {k : AK} {l : List AOp} {d : Nat} {want : Bool} : wk P (⟨dst, args, some (d, want), k⟩ :: l) env H K = @guardW (env d) want
      ⟨@opK P k H (args.map (·.eval (env.put (some d) (.bool want)))) ⟨fun x H' => wk P l ((env.put (some d) (.bool want)).put dst x) H' K⟩⟩
      ⟨wk P l ((env.put (some d) (.bool (!want))).put dst (.tup [])) H K⟩ ⟨wk P l (env.put dst (.tup [])) H K⟩ := (rfl)
theorem z15 {K : Env → Prop} : qk P H [] env K = K env := (rfl)
theorem z16 {K : Env → Prop} {dst : Option Nat} {args : List AArg} {k : AK} {l : List AOp} : qk P H (⟨dst, args, none, k⟩ :: l) env K = @opQ P k H (args.map (·.eval env)) ⟨fun x => qk P H l (env.put dst x) K⟩ := (rfl)
theorem z17 {K : Env → Prop} {dst : Option Nat} {args : List AArg} {k : AK} {l : List AOp} {d : Nat} {want : Bool} : qk P H (⟨dst, args, some (d, want), k⟩ :: l) env K = @guardW (env d) want
      ⟨@opQ P k H (args.map (·.eval (env.put (some d) (.bool want)))) ⟨fun x => qk P H l ((env.put (some d) (.bool want)).put dst x) K⟩⟩
      ⟨qk P H l ((env.put (some d) (.bool (!want))).put dst (.tup [])) K⟩ ⟨qk P H l (env.put dst (.tup [])) K⟩ := (rfl)
theorem z21 {p q r : Prop} : @guardW (.bool true) true ⟨p⟩ ⟨q⟩ ⟨r⟩ = p := (rfl)
theorem z22 {p q r : Prop} : @guardW (.bool false) false ⟨p⟩ ⟨q⟩ ⟨r⟩ = p := (rfl)
theorem z23 {p q r : Prop} : @guardW (.bool true) false ⟨p⟩ ⟨q⟩ ⟨r⟩ = q := (rfl)
theorem z24 {p q r : Prop} : @guardW (.bool false) true ⟨p⟩ ⟨q⟩ ⟨r⟩ = q := (rfl)
theorem z25 {w : Bool} {p q r : Prop} : @guardW (.tup []) w ⟨p⟩ ⟨q⟩ ⟨r⟩ = r := by cases w <;> rfl
theorem guardW_split {b w : Bool} {p q r : Prop} (hp : b = w → p) (hq : b = (!w) → q) : @guardW (.bool b) w ⟨p⟩ ⟨q⟩ ⟨r⟩ := guardV_split hp hq
theorem z26 {p q : Prop} : @condW (.bool true) ⟨p⟩ ⟨q⟩ = p := by simp [condW, condK]
theorem z27 {p q : Prop} : @condW (.bool false) ⟨p⟩ ⟨q⟩ = q := by simp [condW, condK]
theorem condW_split {b : Bool} {p q : Prop} (hp : b = true → p) (hq : b = false → q) : @condW (.bool b) ⟨p⟩ ⟨q⟩ := ⟨hp, hq⟩
end
theorem resK_mono {P : Program} {env : Env} {H : AHeap} : ∀ {res : List ARes} {K K' : List AV → Prop}, (∀ xs, K xs → K' xs) → resK P res env H K → resK P res env H K'
  | [], _, _, hk, h => hk _ h
  | .slot t :: l, _, _, hk, h => resK_mono (res := l) (fun xs hh => hk _ hh) h
  | .cell t a s :: l, _, _, hk, h => still_mono (k := .load a s) rfl (fun x _ hh => resK_mono (res := l) (fun xs hh => hk _ hh) hh) h
theorem Ret_mono {P : Program} {res : List ARes} {K K' : AV → AHeap → Prop} (hk : ∀ z H, K z H → K' z H) {x : Ex} {env : Env} {H : AHeap} (h : Ret P res K x env H) : Ret P res K' x env H := ⟨h.1, resK_mono (fun xs hh => hk _ _ hh) h.2⟩
end Go.Proofs.Yticodgjinajkpaa.Abs
set_option linter.unusedSimpArgs false
set_option linter.unusedVariables false
namespace Go.Proofs.Yticodgjinajkpaa.Abs
def nx (x : AV) (H : AHeap) [K : HK] : Prop := K.f x H
theorem nx_eval (x : AV) (H : AHeap) (f : AV → AHeap → Prop) : @nx x H ⟨f⟩ = f x H := (rfl)
class HF (α : Type) where
  f : α → Prop
def optN {α : Type} (o : Option α) [F : HF α] : Prop := optK o F.f
theorem optN_some {α : Type} (x : α) (f : α → Prop) : @optN α (some x) ⟨f⟩ = f x := (rfl)
def ifN (c : Bool) [p : HP] [q : HP] : Prop := match c with
  | false => p.p
  | true => q.p
theorem ifN_true {p q : Prop} : @ifN true ⟨p⟩ ⟨q⟩ = q := (rfl)
theorem ifN_false {p q : Prop} : @ifN false ⟨p⟩ ⟨q⟩ = p := (rfl)
def appN (w bytes : Nat) (s : AV) (news : List AV) (H : AHeap) [K : HK] : Prop := appendA w bytes s news H K.f
def slcN (w : Nat) (x : AV) (lo hi mx : Option Int) (H : AHeap) [K : HK] : Prop := sliceA w x lo hi mx H fun y => K.f y H
def nq (x : AV) [K : HQ] : Prop := K.f x
theorem nq_eval (x : AV) (f : AV → Prop) : @nq x ⟨f⟩ = f x := (rfl)
section
variable {P : Program} {H : AHeap} {K : AV → AHeap → Prop} {k : IntKind} {a b c : Int} {x y z : AV} {xs ys cs : List AV} {w s o i g v off len n : Nat} {p q r : Bool}
theorem K_mv : @opK P .mv H [x] ⟨K⟩ = @nx x H ⟨K⟩ := (rfl)
theorem K_pick : @opK P .pick H [.bool p, x, y] ⟨K⟩ = @nx (bif p then x else y) H ⟨K⟩ := (rfl)
theorem K_alloc : @opK P (.alloc z w) H [] ⟨K⟩ = @nx (.ptr H.n 1 0 0) (H.push ⟨w, 1, true, [z]⟩) ⟨K⟩ := (rfl)
theorem K_box : @opK P .box H [x] ⟨K⟩ = (allOne x.cells = true ∧ 0 < x.cells.length ∧ @nx (.ptr H.n 1 0 0) (H.push ⟨x.cells.length, 1, true, [x]⟩) ⟨K⟩) := (rfl)
theorem K_build {zs : List AV} {pl : List (Nat × Nat)} {idx : List Nat} : @opK P (.build zs pl idx) H xs ⟨K⟩ = @optN _ (fillA pl idx xs zs) ⟨fun cs => @nx (.agg cs) H ⟨K⟩⟩ := (rfl)
theorem K_bslice {idx : List Nat} : @opK P (.bslice w len z idx) H xs ⟨K⟩ = (FitAll w len idx xs ∧ @nx (.ref H.n 1 0 len) (H.push ⟨w, 1, true, setAll idx xs (List.replicate len z)⟩) ⟨K⟩) := (rfl)
theorem K_load_c : @opK P (.load p s) H [.cptr x] ⟨K⟩ = (x.isAny = false ∧ x.cells.length = s ∧ (p = false → s = 1) ∧ @nx (partV p 0 s x) H ⟨K⟩) := (rfl)
theorem K_load_p : @opK P (.load p s) H [.ptr g v i o] ⟨K⟩ = ((H.at_ g).ver = v ∧ i < (H.at_ g).xs.length ∧ ((H.at_ g).xs.getD i .any).isAny = false ∧ ((H.at_ g).xs.getD i .any).cells.length = (H.at_ g).w ∧ 0 < s ∧ o + s ≤ (H.at_ g).w ∧
      (p = false → s = 1) ∧ @nx (partV p o s ((H.at_ g).xs.getD i .any)) H ⟨K⟩) := (rfl)
theorem K_store : @opK P (.store s) H [.ptr g v i o, x] ⟨K⟩ = ((H.at_ g).ver = v ∧ i < (H.at_ g).xs.length ∧ 0 < s ∧ o + s ≤ (H.at_ g).w ∧ x.cells.length = s ∧ allOne x.cells = true ∧
      (s = (H.at_ g).w ∨ ((H.at_ g).xs.getD i .any).isAny = false ∧ ((H.at_ g).xs.getD i .any).cells.length = (H.at_ g).w) ∧
      @nx .any (H.set g ⟨(H.at_ g).w, v, (H.at_ g).exact, (H.at_ g).xs.set i (setPart (H.at_ g).w o s ((H.at_ g).xs.getD i .any) x)⟩) ⟨K⟩) := (rfl)
theorem K_nilc : @opK P .nilCheck H [.cptr x] ⟨K⟩ = @nx (.cptr x) H ⟨K⟩ := (rfl)
theorem K_nilp : @opK P .nilCheck H [.ptr g v i o] ⟨K⟩ = @nx (.ptr g v i o) H ⟨K⟩ := (rfl)
theorem K_nilf {f : Nat} : @opK P .nilCheck H [.fn f xs] ⟨K⟩ = @nx (.fn f xs) H ⟨K⟩ := (rfl)
theorem K_add : @opK P (.bin .add) H [.int k a, .int k b] ⟨K⟩ = @nx (.int k (k.wrap (a + b))) H ⟨K⟩ := by simp [opK, stepA, binI, nx]
theorem K_sub : @opK P (.bin .sub) H [.int k a, .int k b] ⟨K⟩ = @nx (.int k (k.wrap (a - b))) H ⟨K⟩ := by simp [opK, stepA, binI, nx]
theorem K_mul : @opK P (.bin .mul) H [.int k a, .int k b] ⟨K⟩ = @nx (.int k (k.wrap (a * b))) H ⟨K⟩ := by simp [opK, stepA, binI, nx]
theorem K_quo : @opK P (.bin .quo) H [.int k a, .int k b] ⟨K⟩ = (b ≠ 0 ∧ @nx (.int k (k.wrap (a.tdiv b))) H ⟨K⟩) := by simp [opK, stepA, binI, nx]
theorem K_rem : @opK P (.bin .rem) H [.int k a, .int k b] ⟨K⟩ = (b ≠ 0 ∧ @nx (.int k (a.tmod b)) H ⟨K⟩) := by simp [opK, stepA, binI, nx]
theorem K_and : @opK P (.bin .and) H [.int k a, .int k b] ⟨K⟩ = @nx (.int k (bitsI .and k a b)) H ⟨K⟩ := by simp [opK, stepA, binI, nx]
theorem K_or : @opK P (.bin .or) H [.int k a, .int k b] ⟨K⟩ = @nx (.int k (bitsI .or k a b)) H ⟨K⟩ := by simp [opK, stepA, binI, nx]
theorem K_xor : @opK P (.bin .xor) H [.int k a, .int k b] ⟨K⟩ = @nx (.int k (bitsI .xor k a b)) H ⟨K⟩ := by simp [opK, stepA, binI, nx]
theorem K_andNot : @opK P (.bin .andNot) H [.int k a, .int k b] ⟨K⟩ = @nx (.int k (bitsI .andNot k a b)) H ⟨K⟩ := by simp [opK, stepA, binI, nx]
theorem K_shl {k' : IntKind} : @opK P (.bin .shl) H [.int k a, .int k' b] ⟨K⟩ = (0 ≤ b ∧ @nx (.int k (k.wrap (a * 2 ^ (Min.min b.toNat k.bits)))) H ⟨K⟩) := (rfl)
theorem K_shr {k' : IntKind} : @opK P (.bin .shr) H [.int k a, .int k' b] ⟨K⟩ = (0 ≤ b ∧ @nx (.int k (a.fdiv (2 ^ (Min.min b.toNat k.bits)))) H ⟨K⟩) := (rfl)
theorem K_eql : @opK P (.bin .eql) H [.int k a, .int k b] ⟨K⟩ = @nx (.bool (decide (a = b))) H ⟨K⟩ := by simp [opK, stepA, binI, nx]
theorem K_neq : @opK P (.bin .neq) H [.int k a, .int k b] ⟨K⟩ = @nx (.bool (!decide (a = b))) H ⟨K⟩ := by simp [opK, stepA, binI, nx]
theorem K_lss : @opK P (.bin .lss) H [.int k a, .int k b] ⟨K⟩ = @nx (.bool (decide (a < b))) H ⟨K⟩ := by simp [opK, stepA, binI, nx]
theorem K_leq : @opK P (.bin .leq) H [.int k a, .int k b] ⟨K⟩ = @nx (.bool (decide (a ≤ b))) H ⟨K⟩ := by simp [opK, stepA, binI, nx]
theorem K_gtr : @opK P (.bin .gtr) H [.int k a, .int k b] ⟨K⟩ = @nx (.bool (decide (b < a))) H ⟨K⟩ := by simp [opK, stepA, binI, nx]
theorem K_geq : @opK P (.bin .geq) H [.int k a, .int k b] ⟨K⟩ = @nx (.bool (decide (b ≤ a))) H ⟨K⟩ := by simp [opK, stepA, binI, nx]
theorem K_seql {s t : List UInt8} : @opK P (.bin .eql) H [.str s, .str t] ⟨K⟩ = @nx (.bool (decide (s = t))) H ⟨K⟩ := (rfl)
theorem K_sneq {s t : List UInt8} : @opK P (.bin .neq) H [.str s, .str t] ⟨K⟩ = @nx (.bool (!decide (s = t))) H ⟨K⟩ := (rfl)
theorem K_eqb : @opK P (.eqb p) H [.bool q, .bool r] ⟨K⟩ = @nx (.bool (if p then !(q == r) else q == r)) H ⟨K⟩ := (rfl)
theorem K_eqs {ks : List Nat} : @opK P (.eqs p ks) H [.agg xs, .agg ys] ⟨K⟩ = @optN _ (eqL ks xs ys) ⟨fun b => @nx (.bool (if p then !b else b)) H ⟨K⟩⟩ := (rfl)
theorem K_eqn_nil : @opK P (.eqn p) H [.nilS, .nilS] ⟨K⟩ = @nx (.bool (!p)) H ⟨K⟩ := (rfl)
theorem K_eqn_lst : @opK P (.eqn p) H [.lst w xs, .nilS] ⟨K⟩ = (xs ≠ [] ∧ @nx (.bool p) H ⟨K⟩) := (rfl)
theorem K_eqn_ref : @opK P (.eqn p) H [.ref g v off len, .nilS] ⟨K⟩ = (0 < len ∧ @nx (.bool p) H ⟨K⟩) := (rfl)
theorem K_not : @opK P (.un .not) H [.bool p] ⟨K⟩ = @nx (.bool (!p)) H ⟨K⟩ := (rfl)
theorem K_neg : @opK P (.un .neg) H [.int k a] ⟨K⟩ = @nx (.int k (k.wrap (0 - a))) H ⟨K⟩ := (rfl)
theorem K_conv {k' : IntKind} : @opK P (.conv k) H [.int k' a] ⟨K⟩ = @nx (.int k (k.wrap a)) H ⟨K⟩ := (rfl)
theorem K_toStr : @opK P .toStr H [x] ⟨K⟩ = (ElemsOk H 1 x ∧ (match x with | .str _ => False | _ => True) ∧ ∃ bs : List UInt8, elemsOf H x = some (bs.map fun b => .int .u8 b.toNat) ∧ @nx (.str bs) H ⟨K⟩) := (rfl)
theorem K_slice {lo hi mx : Bool} : @opK P (.slice w lo hi mx) H (x :: xs) ⟨K⟩ = @optN _ (optA lo xs) ⟨fun p => @optN _ (optA hi p.2) ⟨fun q => @optN _ (optA mx q.2) ⟨fun r => r.2 = [] ∧ @slcN w x p.1 q.1 r.1 H ⟨K⟩⟩⟩⟩ := (rfl)
theorem K_faddr_c : @opK P (.faddr p off s) H [.cptr x] ⟨K⟩ = (x.isAny = false ∧ off + s ≤ x.cells.length ∧ (p = false → s = 1) ∧ 0 < s ∧ @nx (.cptr (partV p off s x)) H ⟨K⟩) := (rfl)
theorem K_faddr_p : @opK P (.faddr p off s) H [.ptr g v i o] ⟨K⟩ = ((H.at_ g).ver = v ∧ @nx (.ptr g v i (o + off)) H ⟨K⟩) := (rfl)
theorem K_field : @opK P (.field p off s) H [.agg cs] ⟨K⟩ = (off + s ≤ cs.length ∧ (p = false → s = 1) ∧ @nx (partV p off s (.agg cs)) H ⟨K⟩) := (rfl)
theorem K_iaddr_l {w' : Nat} : @opK P (.iaddr w) H [.lst w' xs, .int k a] ⟨K⟩ = (w' = w ∧ 0 ≤ a ∧ a < xs.length ∧ @nx (.cptr (xs.getD a.toNat .any)) H ⟨K⟩) := (rfl)
theorem K_iaddr_r : @opK P (.iaddr w) H [.ref g v off len, .int k a] ⟨K⟩ = ((H.at_ g).ver = v ∧ (H.at_ g).w = w ∧ 0 ≤ a ∧ a < len ∧ @nx (.ptr g v (off + a.toNat) 0) H ⟨K⟩) := (rfl)
theorem K_iaddrA_p : @opK P (.iaddrA n w p) H [.ptr g v i o, .int k a] ⟨K⟩ = ((H.at_ g).ver = v ∧ 0 ≤ a ∧ a < n ∧ @nx (.ptr g v i (o + a.toNat * w)) H ⟨K⟩) := (rfl)
theorem K_iaddrA_c : @opK P (.iaddrA n w p) H [.cptr x, .int k a] ⟨K⟩ = (x.isAny = false ∧ 0 ≤ a ∧ a < n ∧ n * w ≤ x.cells.length ∧ (p = false → w = 1) ∧ 0 < w ∧ @nx (.cptr (partV p (a.toNat * w) w x)) H ⟨K⟩) := (rfl)
theorem K_index : @opK P (.index n w p) H [.agg cs, .int k a] ⟨K⟩ = (0 ≤ a ∧ a < n ∧ n * w ≤ cs.length ∧ (p = false → w = 1) ∧ @nx (partV p (a.toNat * w) w (.agg cs)) H ⟨K⟩) := (rfl)
theorem K_indexStr {s : List UInt8} : @opK P .indexStr H [.str s, .int k a] ⟨K⟩ = (0 ≤ a ∧ a < s.length ∧ @nx (.int .u8 (s.getD a.toNat 0).toNat) H ⟨K⟩) := (rfl)
theorem K_extract : @opK P (.extract i) H [.tup xs] ⟨K⟩ = (i < xs.length ∧ @nx (xs.getD i .any) H ⟨K⟩) := (rfl)
theorem K_len_nil : @opK P (.len false) H [.nilS] ⟨K⟩ = @nx (.int .i64 0) H ⟨K⟩ := (rfl)
theorem K_len_nul : @opK P (.len false) H [.nul] ⟨K⟩ = @nx (.int .i64 0) H ⟨K⟩ := (rfl)
theorem K_len_lst : @opK P (.len false) H [.lst w xs] ⟨K⟩ = @nx (.int .i64 xs.length) H ⟨K⟩ := (rfl)
theorem K_len_ref : @opK P (.len false) H [.ref g v off len] ⟨K⟩ = @nx (.int .i64 len) H ⟨K⟩ := (rfl)
theorem K_len_str {s : List UInt8} : @opK P (.len true) H [.str s] ⟨K⟩ = @nx (.int .i64 s.length) H ⟨K⟩ := (rfl)
theorem K_app : @opK P (.app w n z) H [x, y] ⟨K⟩ = (ElemsOk H w y ∧ @optN _ (elemsOf H y) ⟨fun news => @appN w n x news H ⟨K⟩⟩) := (rfl)
theorem app_nilS : @appN w n .nilS xs H ⟨K⟩ = (xs.length * n ≤ 140737488355328 ∧ @nx (.ref H.n 1 0 xs.length) (H.push ⟨w, 1, xs.isEmpty, xs⟩) ⟨K⟩) := (rfl)
theorem app_nul : @appN w n .nul xs H ⟨K⟩ = (xs.length * n ≤ 140737488355328 ∧ @nx (.ref H.n 1 0 xs.length) (H.push ⟨w, 1, xs.isEmpty, xs⟩) ⟨K⟩) := (rfl)
theorem app_ref : @appN w n (.ref g v off len) xs H ⟨K⟩ = ((H.at_ g).ver = v ∧ (H.at_ g).w = w ∧ (len + xs.length) * n ≤ 140737488355328 ∧ off + len ≤ (H.at_ g).xs.length ∧ @ifN (!(H.at_ g).exact || (H.at_ g).xs.isEmpty)
     ⟨(off + len + xs.length ≤ (H.at_ g).xs.length → @nx (.ref g v off (len + xs.length)) (H.set g ⟨w, v, true, (H.at_ g).xs.take (off + len) ++ xs ++ (H.at_ g).xs.drop (off + len + xs.length)⟩) ⟨K⟩) ∧
       ((H.at_ g).xs.length < off + len + xs.length → @nx (.ref H.n 1 0 (len + xs.length)) (H.push ⟨w, 1, false, ((H.at_ g).xs.drop off).take len ++ xs⟩) ⟨K⟩)⟩
     ⟨(off = 0 ∨ off + len = (H.at_ g).xs.length) ∧ (off + len = (H.at_ g).xs.length → @nx (.ref g (v + 1) off (len + xs.length)) (H.set g ⟨w, v + 1, (H.at_ g).exact && xs.isEmpty, (H.at_ g).xs ++ xs⟩) ⟨K⟩) ∧
       (off + len < (H.at_ g).xs.length → off + len + xs.length ≤ (H.at_ g).xs.length ∧ @nx (.ref g v off (len + xs.length)) (H.set g ⟨w, v, (H.at_ g).exact, (H.at_ g).xs.take (off + len) ++ xs ++ (H.at_ g).xs.drop (off + len + xs.length)⟩) ⟨K⟩) ∧
       (off ≠ 0 → @nx (.ref g (v + 1) 0 (len + xs.length)) (H.set g ⟨w, v + 1, (H.at_ g).exact && xs.isEmpty, (H.at_ g).xs.drop off ++ xs⟩) ⟨K⟩)⟩) := by
  simp only [appN, appendA, ifN]
  generalize (!(H.at_ g).exact || (H.at_ g).xs.isEmpty) = c
  cases c <;> rfl
theorem slc_lst {w' : Nat} {lo hi : Option Int} : @slcN w (.lst w' xs) lo hi none H ⟨K⟩ = (w' = w ∧ 0 ≤ lo.getD 0 ∧ lo.getD 0 ≤ hi.getD xs.length ∧ hi.getD xs.length ≤ xs.length ∧ @nx (.lst w' ((xs.take (hi.getD xs.length).toNat).drop (lo.getD 0).toNat)) H ⟨K⟩) := (rfl)
theorem slc_nil {lo hi : Option Int} : @slcN w .nilS lo hi none H ⟨K⟩ = ((lo = none ∨ lo = some 0) ∧ (hi = none ∨ hi = some 0) ∧ @nx .nilS H ⟨K⟩) := (rfl)
theorem slc_ref {lo hi : Option Int} : @slcN w (.ref g v off len) lo hi none H ⟨K⟩ = ((H.at_ g).ver = v ∧ (H.at_ g).w = w ∧ 0 < w ∧ 0 ≤ lo.getD 0 ∧ lo.getD 0 ≤ hi.getD len ∧ (hi.getD len ≤ len ∨ (H.at_ g).exact = true ∧ off + hi.getD len ≤ (H.at_ g).xs.length) ∧
      @nx (.ref g v (off + (lo.getD 0).toNat) ((hi.getD len).toNat - (lo.getD 0).toNat)) H ⟨K⟩) := (rfl)
theorem slc_lst3 {w' : Nat} {lo hi : Option Int} {m : Int} : @slcN w (.lst w' xs) lo hi (some m) H ⟨K⟩ = (m = 0 ∧ hi = some 0 ∧ (lo = none ∨ lo = some 0) ∧ @nx .nul H ⟨K⟩) := (rfl)
theorem slc_nil3 {lo hi : Option Int} {m : Int} : @slcN w .nilS lo hi (some m) H ⟨K⟩ = (m = 0 ∧ hi = some 0 ∧ (lo = none ∨ lo = some 0) ∧ @nx .nilS H ⟨K⟩) := (rfl)
theorem slc_nul3 {lo hi : Option Int} {m : Int} : @slcN w .nul lo hi (some m) H ⟨K⟩ = (m = 0 ∧ hi = some 0 ∧ (lo = none ∨ lo = some 0) ∧ @nx .nul H ⟨K⟩) := (rfl)
theorem slc_ref3 {lo hi : Option Int} {m : Int} : @slcN w (.ref g v off len) lo hi (some m) H ⟨K⟩ = (m = 0 ∧ hi = some 0 ∧ (lo = none ∨ lo = some 0) ∧ @nx .nul H ⟨K⟩) := (rfl)
theorem K_max : @opK P .max H [.int k a, .int k b] ⟨K⟩ = @nx (.int k (Max.max a b)) H ⟨K⟩ := by simp [opK, stepA, nx]
theorem K_min : @opK P .min H [.int k a, .int k b] ⟨K⟩ = @nx (.int k (Min.min a b)) H ⟨K⟩ := by simp [opK, stepA, nx]
theorem K_mkSlice {k' : IntKind} : @opK P (.mkSlice w n z) H [.int k a, .int k' b] ⟨K⟩ = (0 ≤ a ∧ a ≤ b ∧ b * n ≤ 140737488355328 ∧ @nx (.ref H.n 1 0 a.toNat) (H.push ⟨w, 1, true, List.replicate b.toNat z⟩) ⟨K⟩) := (rfl)
theorem K_mkFunc {f : Nat} : @opK P (.mkFunc f) H xs ⟨K⟩ = @nx (.fn f xs) H ⟨K⟩ := (rfl)
theorem K_mkMap : @opK P .mkMap H [] ⟨K⟩ = @nx (.map H.n 1) (H.push ⟨0, 1, true, []⟩) ⟨K⟩ := (rfl)
theorem K_mapGet : @opK P (.mapGet z) H [.map g v, .int k a] ⟨K⟩ = (k = .i64 ∧ (H.at_ g).ver = v ∧ (H.at_ g).w = 0 ∧ (H.at_ g).exact = true ∧ @optN _ (findM z a (H.at_ g).xs) ⟨fun y => @nx y H ⟨K⟩⟩) := (rfl)
theorem K_mapSet : @opK P .mapSet H [.map g v, .int k a, x] ⟨K⟩ = (k = .i64 ∧ (H.at_ g).ver = v ∧ (H.at_ g).w = 0 ∧ (H.at_ g).exact = true ∧ @optN _ (setM a x (H.at_ g).xs) ⟨fun ys => @nx .any (H.set g ⟨0, v, true, ys⟩) ⟨K⟩⟩) := (rfl)
theorem K_len_full : @opK P (.len false) H [.full w xs] ⟨K⟩ = @nx (.int .i64 xs.length) H ⟨K⟩ := (rfl)
theorem K_iaddr_f {w' : Nat} : @opK P (.iaddr w) H [.full w' xs, .int k a] ⟨K⟩ = (w' = w ∧ 0 ≤ a ∧ a < xs.length ∧ @nx (.cptr (xs.getD a.toNat .any)) H ⟨K⟩) := (rfl)
theorem K_eqn_full : @opK P (.eqn p) H [.full w xs, .nilS] ⟨K⟩ = (xs ≠ [] ∧ @nx (.bool p) H ⟨K⟩) := (rfl)
theorem slc_full {w' : Nat} {lo hi : Option Int} : @slcN w (.full w' xs) lo hi none H ⟨K⟩ = (w' = w ∧ 0 ≤ lo.getD 0 ∧ lo.getD 0 ≤ hi.getD xs.length ∧ hi.getD xs.length ≤ xs.length ∧ @nx (.lst w' ((xs.take (hi.getD xs.length).toNat).drop (lo.getD 0).toNat)) H ⟨K⟩) := (rfl)
theorem slc_full3 {w' : Nat} {lo hi : Option Int} {m : Int} : @slcN w (.full w' xs) lo hi (some m) H ⟨K⟩ = (m = 0 ∧ hi = some 0 ∧ (lo = none ∨ lo = some 0) ∧ @nx .nul H ⟨K⟩) := (rfl)
theorem app_full {w' : Nat} : @appN w n (.full w' xs) ys H ⟨K⟩ = (w' = w ∧ 0 < ys.length ∧ (xs.length + ys.length) * n ≤ 140737488355328 ∧ @nx (.ref H.n 1 0 (xs.length + ys.length)) (H.push ⟨w, 1, false, xs ++ ys⟩) ⟨K⟩) := (rfl)
theorem findM_nil : findM z a [] = some z := rfl
theorem findM_cons : findM z a (.int .i64 b :: y :: xs) = if b = a then some y else findM z a xs := rfl
theorem setM_nil : setM a x [] = some [.int .i64 a, x] := rfl
theorem setM_cons : setM a x (.int .i64 b :: y :: xs) = if b = a then some (.int .i64 b :: x :: xs) else (setM a x xs).map fun r' => .int .i64 b :: y :: r' := rfl
theorem K_call {f : Nat} : @opK P .call H (.fn f cs :: xs) ⟨K⟩ = @CallK P f (xs ++ cs) H ⟨K⟩ := (rfl)
end
section
variable {P : Program} {H : AHeap} {K : AV → Prop} {xs cs : List AV} {z : AV} {w len : Nat}
theorem Q_still {k : AK} (h : k.still = true) : @opQ P k H xs ⟨K⟩ = @opK P k H xs ⟨fun x _ => K x⟩ := by
  cases k <;> first | (exact propext ⟨fun h => h.2, fun h => ⟨rfl, h⟩⟩) | (simp [AK.still] at h)
theorem Q_mv  : @opQ P .mv H xs ⟨K⟩ = @opK P .mv H xs ⟨fun x _ => K x⟩ := Q_still rfl
theorem Q_pick  : @opQ P .pick H xs ⟨K⟩ = @opK P .pick H xs ⟨fun x _ => K x⟩ := Q_still rfl
theorem Q_build {zs : List AV} {pl : List (Nat × Nat)} {idx : List Nat} : @opQ P (.build zs pl idx) H xs ⟨K⟩ = @opK P (.build zs pl idx) H xs ⟨fun x _ => K x⟩ := Q_still rfl
theorem Q_load {a : Bool} {s : Nat} : @opQ P (.load a s) H xs ⟨K⟩ = @opK P (.load a s) H xs ⟨fun x _ => K x⟩ := Q_still rfl
theorem Q_nilCheck  : @opQ P .nilCheck H xs ⟨K⟩ = @opK P .nilCheck H xs ⟨fun x _ => K x⟩ := Q_still rfl
theorem Q_bin {op : BinOp} : @opQ P (.bin op) H xs ⟨K⟩ = @opK P (.bin op) H xs ⟨fun x _ => K x⟩ := Q_still rfl
theorem Q_eqb {n : Bool} : @opQ P (.eqb n) H xs ⟨K⟩ = @opK P (.eqb n) H xs ⟨fun x _ => K x⟩ := Q_still rfl
theorem Q_eqs {n : Bool} {ks : List Nat} : @opQ P (.eqs n ks) H xs ⟨K⟩ = @opK P (.eqs n ks) H xs ⟨fun x _ => K x⟩ := Q_still rfl
theorem Q_eqn {n : Bool} : @opQ P (.eqn n) H xs ⟨K⟩ = @opK P (.eqn n) H xs ⟨fun x _ => K x⟩ := Q_still rfl
theorem Q_un {op : UnOp} : @opQ P (.un op) H xs ⟨K⟩ = @opK P (.un op) H xs ⟨fun x _ => K x⟩ := Q_still rfl
theorem Q_conv {k : IntKind} : @opQ P (.conv k) H xs ⟨K⟩ = @opK P (.conv k) H xs ⟨fun x _ => K x⟩ := Q_still rfl
theorem Q_slice {w : Nat} {lo hi mx : Bool} : @opQ P (.slice w lo hi mx) H xs ⟨K⟩ = @opK P (.slice w lo hi mx) H xs ⟨fun x _ => K x⟩ := Q_still rfl
theorem Q_faddr {a : Bool} {o s : Nat} : @opQ P (.faddr a o s) H xs ⟨K⟩ = @opK P (.faddr a o s) H xs ⟨fun x _ => K x⟩ := Q_still rfl
theorem Q_field {a : Bool} {o s : Nat} : @opQ P (.field a o s) H xs ⟨K⟩ = @opK P (.field a o s) H xs ⟨fun x _ => K x⟩ := Q_still rfl
theorem Q_iaddr {w : Nat} : @opQ P (.iaddr w) H xs ⟨K⟩ = @opK P (.iaddr w) H xs ⟨fun x _ => K x⟩ := Q_still rfl
theorem Q_iaddrA {n w : Nat} {a : Bool} : @opQ P (.iaddrA n w a) H xs ⟨K⟩ = @opK P (.iaddrA n w a) H xs ⟨fun x _ => K x⟩ := Q_still rfl
theorem Q_index {n w : Nat} {a : Bool} : @opQ P (.index n w a) H xs ⟨K⟩ = @opK P (.index n w a) H xs ⟨fun x _ => K x⟩ := Q_still rfl
theorem Q_indexStr  : @opQ P .indexStr H xs ⟨K⟩ = @opK P .indexStr H xs ⟨fun x _ => K x⟩ := Q_still rfl
theorem Q_extract {i : Nat} : @opQ P (.extract i) H xs ⟨K⟩ = @opK P (.extract i) H xs ⟨fun x _ => K x⟩ := Q_still rfl
theorem Q_len {b : Bool} : @opQ P (.len b) H xs ⟨K⟩ = @opK P (.len b) H xs ⟨fun x _ => K x⟩ := Q_still rfl
theorem Q_max  : @opQ P .max H xs ⟨K⟩ = @opK P .max H xs ⟨fun x _ => K x⟩ := Q_still rfl
theorem Q_min  : @opQ P .min H xs ⟨K⟩ = @opK P .min H xs ⟨fun x _ => K x⟩ := Q_still rfl
theorem Q_mapGet : @opQ P (.mapGet z) H xs ⟨K⟩ = @opK P (.mapGet z) H xs ⟨fun x _ => K x⟩ := Q_still rfl
theorem Q_mkFunc {f : Nat} : @opQ P (.mkFunc f) H xs ⟨K⟩ = @opK P (.mkFunc f) H xs ⟨fun x _ => K x⟩ := Q_still rfl
theorem Q_toStr  : @opQ P .toStr H xs ⟨K⟩ = @opK P .toStr H xs ⟨fun x _ => K x⟩ := Q_still rfl
theorem Q_callq {f : Nat} : @opQ P .call H (.fn f cs :: xs) ⟨K⟩ = @CallQ P f (xs ++ cs) H ⟨K⟩ := (rfl)
theorem Q_bsl {idx : List Nat} : @opQ P (.bslice w len z idx) H xs ⟨K⟩ = (FitAll w len idx xs ∧ 0 < w ∧ pureL (setAll idx xs (List.replicate len z)) = true ∧ @nq (.full w (setAll idx xs (List.replicate len z))) ⟨K⟩) := (rfl)
end
section
variable {H : AHeap} {G : Grp} {g j : Nat}
end
section
variable {P : Program} {H : AHeap} {env : Env} {K : List AV → Prop} {l : List ARes} {t s : Nat} {a : Bool}
theorem res_nil : resK P [] env H K = K [] := (rfl)
theorem res_slot : resK P (.slot t :: l) env H K = resK P l env H fun xs => K (env t :: xs) := (rfl)
theorem res_cell : resK P (.cell t a s :: l) env H K = @opK P (.load a s) H [env t] ⟨fun x _ => resK P l env H fun xs => K (x :: xs)⟩ := (rfl)
end
theorem tt_dec {p : Prop} [Decidable p] (h : p) : true = decide p := (decide_eq_true h).symm
theorem ff_dec {p : Prop} [Decidable p] (h : ¬p) : false = decide p := (decide_eq_false h).symm
theorem dec_dec {p q : Prop} [Decidable p] [Decidable q] (h : p ↔ q) : decide p = decide q := decide_eq_decide.2 h
theorem getD_map {α : Type} [Inhabited α] (f : α → AV) (l : List α) (i : Nat) : (l.map f).getD i .any = if i < l.length then f (l.getD i default) else .any := by
  by_cases h : i < l.length <;> simp [List.getD, h]
def nth {α : Type} [Inhabited α] (l : List α) (i : Nat) : α := l.getD i default
theorem getD_map' {α : Type} [Inhabited α] (f : α → AV) (l : List α) (i : Nat) (h : i < l.length) : (l.map f).getD i .any = f (nth l i) := by rw [getD_map, if_pos h]; rfl
theorem drop_map {α : Type} (f : α → AV) (l : List α) (i : Nat) : (l.map f).drop i = (l.drop i).map f := List.map_drop.symm
theorem take_map {α : Type} (f : α → AV) (l : List α) (i : Nat) : (l.map f).take i = (l.take i).map f := List.map_take.symm
theorem pure_map {α : Type} {f : α → AV} (h : ∀ x, (f x).pure = true) : ∀ l : List α, pureL (l.map f) = true
  | [] => rfl
  | x :: l => by simp [pureL, h x, pure_map h l]
theorem pure_int (k : IntKind) (l : List Int) : pureL (l.map (AV.int k)) = true := pure_map (fun _ => rfl) l
theorem pure_int' (k : IntKind) (l : List Int) : pureL (l.map fun x => AV.int k x) = true := pure_map (fun _ => rfl) l
theorem pure_bool (l : List Bool) : pureL (l.map AV.bool) = true := pure_map (fun _ => rfl) l
attribute [push_cast] z34 z35 K_mkMap K_mapGet K_mapSet K_len_full K_iaddr_f K_eqn_full slc_full slc_full3 app_full findM_nil findM_cons setM_nil setM_cons Q_mapGet
attribute [push_cast] nx_eval nq_eval optN_some ifN_true ifN_false app_nilS app_nul app_ref slc_lst slc_nil slc_ref slc_lst3 slc_nil3 slc_nul3 slc_ref3 K_mv K_pick K_alloc K_box K_build K_bslice K_load_c K_load_p K_store K_nilc K_nilp K_nilf K_add K_sub K_mul K_quo K_rem K_and K_or K_xor K_andNot K_shl K_shr K_eql K_neq K_lss K_leq K_gtr K_geq K_seql K_sneq K_eqb K_eqs K_eqn_nil K_eqn_lst K_eqn_ref K_not K_neg K_conv K_toStr K_slice K_faddr_c K_faddr_p K_field K_iaddr_l K_iaddr_r K_iaddrA_p K_iaddrA_c K_index K_indexStr K_extract K_len_nil K_len_nul K_len_lst K_len_ref K_len_str K_app K_max K_min K_mkSlice K_mkFunc K_call Q_mv Q_pick Q_build Q_load Q_nilCheck Q_bin Q_eqb Q_eqs Q_eqn Q_un Q_conv Q_slice Q_faddr Q_field Q_iaddr Q_iaddrA Q_index Q_indexStr Q_extract Q_len Q_max Q_min Q_mkFunc Q_toStr Q_callq Q_bsl
attribute [push_cast] z21 z22 z23 z24 z25 z26 z27 put_eval
attribute [push_cast] partV AV.cells AV.isAny allOne AV.one setPart eqL eq1 ElemsOk elemsOf FitAll setAll fillA optA List.replicate pureL AV.pure Ret res_nil res_slot res_cell resV drop_map take_map pure_int pure_int' pure_bool
end Go.Proofs.Yticodgjinajkpaa.Abs
set_option linter.unusedSimpArgs false
set_option linter.unusedVariables false
namespace Go.Proofs.Yticodgjinajkpaa.Abs
def pos : List Nat → Nat → Option Nat
  | [], _ => none
  | k :: ks, g => if g = k then some 0 else (pos ks g).map (· + 1)
theorem pos_some : ∀ {ks : List Nat} {g j : Nat}, pos ks g = some j → j < ks.length ∧ ks.getD j 0 = g
  | [], g, j, h => by simp [pos] at h
  | k :: ks, g, j, h => by
    rw [pos] at h
    split at h
    · rename_i hk; cases h; exact ⟨by simp, by simp [hk]⟩
    · obtain ⟨i, hi, rfl⟩ := Option.map_eq_some_iff.1 h
      obtain ⟨h1, h2⟩ := pos_some hi
      exact ⟨by simp; omega, by simpa using h2⟩
theorem pos_none : ∀ {ks : List Nat} {g : Nat}, pos ks g = none → g ∉ ks
  | [], g, _ => by simp
  | k :: ks, g, h => by
    rw [pos] at h
    split at h
    · cases h
    · rename_i hk
      have := pos_none (Option.map_eq_none_iff.1 h)
      simp [hk, this]
def frzL (w : Nat) (ys : List AV) : AV := bif pureL ys then .lst w ys else .any
def frzP (y : AV) : AV := bif y.pure then .cptr y else .any
def rnV (b : Nat) (H : AHeap) (ks : List Nat) : Nat → AV → AV
  | 0, x => bif x.pure then x else .any
  | d + 1, .ref g v off len => if g < b then .ref g v off len else if v = (H.at_ g).ver then
      (match pos ks g with
       | some j => .ref (b + j) 1 off len
       | none => if 0 < (H.at_ g).w ∧ off + len ≤ (H.at_ g).xs.length then frzL (H.at_ g).w ((((H.at_ g).xs.drop off).take len).map (rnV b H ks d)) else .any)
      else .any
  | d + 1, .ptr g v i o => if g < b then .ptr g v i o else if v = (H.at_ g).ver then
      (match pos ks g with
       | some j => .ptr (b + j) 1 i o
       | none => if o = 0 ∧ i < (H.at_ g).xs.length ∧ 0 < (H.at_ g).w then frzP (rnV b H ks d ((H.at_ g).xs.getD i .any)) else .any)
      else .any
  | _ + 1, .map g v => if g < b then .map g v else if v = (H.at_ g).ver then (match pos ks g with | some j => .map (b + j) 1 | none => .any) else .any
  | d + 1, .agg cs => .agg (cs.map (rnV b H ks d))
  | d + 1, .tup cs => .tup (cs.map (rnV b H ks d))
  | d + 1, .fn f cs => .fn f (cs.map (rnV b H ks d))
  | _ + 1, x => x
def inv (b : Nat) (ks : List Nat) (j : Nat) : Nat := if j < b then j else ks.getD (j - b) 0
def MS.repack (S : MS) (b : Nat) (H : AHeap) (ks : List Nat) : MS where
  w := S.w
  im := fun c => S.im c ∨ ∃ g, g < H.n ∧ b ≤ g ∧ g ∉ ks ∧ 0 < (H.at_ g).w ∧ 0 < S.cap g ∧ c = S.place g
  keep := S.keep
  n := b + ks.length
  place := fun j => S.place (inv b ks j)
  cur := fun j => if j < b then S.cur j else 1
  cap := fun j => S.cap (inv b ks j)
  wid := fun j => S.wid (inv b ks j)
  base := S.base
def AHeap.repack (H : AHeap) (b : Nat) (ks : List Nat) (d : Nat) : AHeap := ⟨b + ks.length, fun j => ⟨(H.at_ (inv b ks j)).w, if j < b then (H.at_ j).ver else 1, (H.at_ (inv b ks j)).exact, (H.at_ (inv b ks j)).xs.map (rnV b H ks d)⟩⟩
section
variable {S : MS} {H : AHeap} {b : Nat} {ks : List Nat}
theorem inv_old {j : Nat} (h : j < b) : inv b ks j = j := if_pos h
theorem inv_new {j : Nat} : inv b ks (b + j) = ks.getD j 0 := by
  have h1 : b + j - b = j := by omega
  have h2 : ¬ b + j < b := by omega
  rw [inv, if_neg h2, h1]
theorem rn_pure {x : AV} {v : Value} (hx : x.pure = true) (h : VRel S x v) : VRel (S.repack b H ks) x v := VRel.of_pure (S := S) (S' := S.repack b H ks) rfl (fun _ hb => .inl hb) hx h
theorem rn_ok (hS : SRel S H) : ∀ (d : Nat) {x : AV} {v : Value}, VRel S x v → VRel (S.repack b H ks) (rnV b H ks d x) v
  | 0, x, v, h => by
    rw [rnV]
    cases hp : x.pure
    · trivial
    · exact rn_pure hp h
  | d + 1, x, v, h => by
    have keyL : ∀ {cs : List AV} {vs : List Value}, VsRel S cs vs → VsRel (S.repack b H ks) (cs.map (rnV b H ks d)) vs := by
      intro cs
      induction cs with
      | nil => intro vs hh; exact hh
      | cons c cs ih =>
        intro vs hh
        obtain ⟨u, r, rfl, h1, h2⟩ := hh
        exact ⟨u, r, rfl, rn_ok hS d h1, ih h2⟩
    cases x with
    | ref g vn off len =>
      obtain ⟨⟨a, c, rfl, ha⟩, hg, hvn, hcur⟩ := h
      have hG := hS.live_of hg
      rw [rnV]
      split
      · rename_i hgb
        refine ⟨⟨a, c, rfl, ha⟩, by show g < b + _; omega, by show vn ≤ if g < b then _ else _; rw [if_pos hgb]; exact hvn, fun he => ?_⟩
        have he' : (if g < b then S.cur g else 1) = vn := he
        rw [if_pos hgb] at he'
        show ∃ a cap', _ = Value.slice a len cap' ∧ ((a = some ⟨S.place (inv b ks g), off * S.wid (inv b ks g), none⟩ ∧ cap' = S.cap (inv b ks g) - off ∧ off + len ≤ S.cap (inv b ks g)) ∨ (len = 0 ∧ cap' = 0 ∧ S.cap (inv b ks g) ≤ off))
        rw [inv_old hgb]
        exact hcur he'
      · split
        · rename_i hver
          have hh := hcur (by rw [hG.ver, hver])
          split
          · rename_i j hj
            obtain ⟨h1, h2⟩ := pos_some hj
            refine ⟨⟨a, c, rfl, ha⟩, by show b + j < b + _; omega, by show 1 ≤ if b + j < b then _ else 1; rw [if_neg (by omega)]; exact Nat.le_refl 1, fun _ => ?_⟩
            show ∃ a cap', _ = Value.slice a len cap' ∧ ((a = some ⟨S.place (inv b ks (b + j)), off * S.wid (inv b ks (b + j)), none⟩ ∧ cap' = S.cap (inv b ks (b + j)) - off ∧ off + len ≤ S.cap (inv b ks (b + j))) ∨ (len = 0 ∧ cap' = 0 ∧ S.cap (inv b ks (b + j)) ≤ off))
            rw [inv_new, h2]
            exact hh
          · rename_i hb hj
            have hnk := pos_none hj
            split
            · rename_i hw
              obtain ⟨hw, hol⟩ := hw
              unfold frzL
              cases hpu : pureL ((((H.at_ g).xs.drop off).take len).map (rnV b H ks d))
              · trivial
              · obtain ⟨a', cap', hv, hcase⟩ := hh
                obtain ⟨rfl, -, rfl⟩ : a = a' ∧ len = len ∧ c = cap' := by cases hv; exact ⟨rfl, rfl, rfl⟩
                have hl : ((((H.at_ g).xs.drop off).take len).map (rnV b H ks d)).length = len := by simp; omega
                show VRel _ (.lst _ _) _
                have hnone : a = none → c = 0 := fun hn => by
                  rcases hcase with ⟨rfl, _⟩ | ⟨_, hh, _⟩
                  · cases hn
                  · exact hh
                by_cases hc0 : S.cap g = 0
                · have hlen := hG.len hw
                  have hnil : ((H.at_ g).xs.drop off).take len = [] := List.eq_nil_of_length_eq_zero (by simp; omega)
                  simp only [hnil, List.map_nil] at hl ⊢
                  exact ⟨rfl, hw, a, c, [], by rw [← hl], ⟨Nat.zero_le _, hnone⟩, rfl, fun hne => absurd rfl hne⟩
                obtain ⟨⟨cells, TT, us, hb2, hcs, hus, hfl⟩, _⟩ := hG.live hw (by omega)
                refine ⟨hpu, hw, a, c, _, by rw [hl], ⟨?_, hnone⟩, keyL ((hus.drop off).take len), fun hne => ?_⟩
                · rw [hl]; rcases hcase with ⟨_, c2, c3⟩ | ⟨c1, c2, _⟩ <;> omega
                · rcases hcase with ⟨rfl, _, _⟩ | ⟨c1, _, _⟩
                  · refine ⟨_, _, rfl, .inr ⟨g, by rw [← hS.n]; exact hg, by omega, hnk, hw, by omega, rfl⟩, fun j u hu => ?_⟩
                    rw [List.getElem?_take] at hu
                    split at hu
                    · rw [List.getElem?_drop] at hu
                      have := hfl.row hb2 (off + j) u hu
                      rw [Nat.zero_add, Nat.add_mul] at this
                      rw [hG.wid]
                      exact this
                    · cases hu
                  · exact absurd (List.eq_nil_of_length_eq_zero (by rw [hl]; exact c1)) hne
            · trivial
        · trivial
    | ptr g vn i o =>
      obtain ⟨⟨a, rfl⟩, hg, hvn, hcur⟩ := h
      have hG := hS.live_of hg
      rw [rnV]
      split
      · rename_i hgb
        refine ⟨⟨a, rfl⟩, by show g < b + _; omega, by show vn ≤ if g < b then _ else _; rw [if_pos hgb]; exact hvn, fun he => ?_⟩
        have he' : (if g < b then S.cur g else 1) = vn := he
        rw [if_pos hgb] at he'
        show _ = Value.pointer (some ⟨S.place (inv b ks g), i * S.wid (inv b ks g) + o, none⟩)
        rw [inv_old hgb]
        exact hcur he'
      · split
        · rename_i hver
          have hh := hcur (by rw [hG.ver, hver])
          split
          · rename_i j hj
            obtain ⟨h1, h2⟩ := pos_some hj
            refine ⟨⟨a, rfl⟩, by show b + j < b + _; omega, by show 1 ≤ if b + j < b then _ else 1; rw [if_neg (by omega)]; exact Nat.le_refl 1, fun _ => ?_⟩
            show _ = Value.pointer (some ⟨S.place (inv b ks (b + j)), i * S.wid (inv b ks (b + j)) + o, none⟩)
            rw [inv_new, h2]
            exact hh
          · rename_i hb hj
            have hnk := pos_none hj
            split
            · rename_i hc
              obtain ⟨rfl, hi, hw⟩ := hc
              unfold frzP
              cases hpu : (rnV b H ks d ((H.at_ g).xs.getD i .any)).pure
              · trivial
              · show VRel _ (.cptr _) _
                obtain ⟨u, hu, hl⟩ := hG.elem hw hi
                have k1 := rn_ok hS d hu
                refine ⟨hpu, S.place g, i * (H.at_ g).w, u, ?_, .inr ⟨g, by rw [← hS.n]; exact hg, by omega, hnk, hw, by have := hG.len hw; omega, rfl⟩, k1, ?_⟩
                · rw [hh, hG.wid]; rfl
                · rw [hl.1]; exact hl
            · trivial
        · trivial
    | agg cs => obtain ⟨vs, rfl, hr⟩ := h; exact ⟨vs, rfl, keyL hr⟩
    | tup cs => obtain ⟨vs, rfl, hr⟩ := h; exact ⟨vs, rfl, keyL hr⟩
    | fn f cs => obtain ⟨vs, rfl, hr⟩ := h; exact ⟨vs, rfl, keyL hr⟩
    | full w xs => exact rn_pure h.1 h
    | map g vn =>
      obtain ⟨⟨a, rfl⟩, hg, hvn, hcur⟩ := h
      have hG := hS.live_of hg
      rw [rnV]
      split
      · rename_i hgb
        refine ⟨⟨a, rfl⟩, by show g < b + _; omega, by show vn ≤ if g < b then _ else _; rw [if_pos hgb]; exact hvn, fun he => ?_⟩
        have he' : (if g < b then S.cur g else 1) = vn := he
        rw [if_pos hgb] at he'
        show _ = Value.map (some (S.place (inv b ks g)))
        rw [inv_old hgb]
        exact hcur he'
      · split
        · rename_i hver
          have hh := hcur (by rw [hG.ver, hver])
          split
          · rename_i j hj
            obtain ⟨h1, h2⟩ := pos_some hj
            refine ⟨⟨a, rfl⟩, by show b + j < b + _; omega, by show 1 ≤ if b + j < b then _ else 1; rw [if_neg (by omega)]; exact Nat.le_refl 1, fun _ => ?_⟩
            show _ = Value.map (some (S.place (inv b ks (b + j))))
            rw [inv_new, h2]
            exact hh
          · trivial
        · trivial
    | lst w xs => exact rn_pure h.1 h
    | cptr x => exact rn_pure h.1 h
    | any => trivial
    | bool _ => exact h
    | int _ _ => exact h
    | str _ => exact h
    | nilS => exact h
    | nul => exact h
    | emp => exact h
    | nilP => exact h
    | nilF => exact h
    | yld l => exact h
theorem repack_evo (hS : SRel S H) (hb : b ≤ S.n) : BEvo b S (S.repack b H ks) where
  base := rfl
  os := rfl
  tape := rfl
  output := rfl
  size := Nat.le_refl _
  kept _ _ := rfl
  im _ h := .inl h
  keep _ h := h
  fresh c hc := by
    rcases hc with hc | ⟨g, hg, _, _, hw, hcap, rfl⟩
    · exact .inl hc
    · exact .inr fun hk => ((hS.grp g hg).live hw hcap).2 (.inr hk)
  n := Nat.le_add_right _ _
  cur g hg := by show _ ≤ if g < b then S.cur g else 1; rw [if_pos hg]; exact Nat.le_refl _
  same g hg _ := by
    show S.place (inv b ks g) = _ ∧ S.cap (inv b ks g) = _ ∧ S.wid (inv b ks g) = _
    rw [inv_old hg]; exact ⟨rfl, rfl, rfl⟩
theorem repack_rel (d : Nat) (hS : SRel S H) (hb : b ≤ H.n) (hk : ∀ k ∈ ks, b ≤ k ∧ k < H.n) (hn : ks.Nodup) : SRel (S.repack b H ks) (H.repack b ks d) := by
  have keyL : ∀ {cs : List AV} {vs : List Value}, VsRel S cs vs → VsRel (S.repack b H ks) (cs.map (rnV b H ks d)) vs := by
    intro cs
    induction cs with
    | nil => intro vs hh; exact hh
    | cons c cs ih =>
      intro vs hh
      obtain ⟨u, r, rfl, h1, h2⟩ := hh
      exact ⟨u, r, rfl, rn_ok hS d h1, ih h2⟩
  have hinv : ∀ j, j < b + ks.length → inv b ks j < H.n ∧ (j < b ∨ b ≤ inv b ks j ∧ inv b ks j ∈ ks) := by
    intro j hj
    by_cases hjb : j < b
    · rw [inv_old hjb]; exact ⟨by omega, .inl hjb⟩
    · have h1 : j - b < ks.length := by omega
      have : inv b ks j = ks[j - b] := by simp [inv, hjb, List.getD, List.getElem?_eq_getElem h1]
      rw [this]
      have := hk _ (List.getElem_mem h1)
      exact ⟨this.2, .inr ⟨this.1, List.getElem_mem h1⟩⟩
  refine ⟨rfl, fun j hj => ?_, fun j j' hj hj' hne hw hw' => ?_, fun c hc => ?_⟩
  · obtain ⟨h1, h2⟩ := hinv j hj
    have hG := hS.grp _ h1
    have hni : (H.at_ (inv b ks j)).has (S.cap (inv b ks j)) → ¬ ((S.repack b H ks).im (S.place (inv b ks j)) ∨ (S.repack b H ks).keep (S.place (inv b ks j))) := fun hq => by
      have a5 := hG.has_ni hq
      rintro ((hi | ⟨g, hg, hbg, hnk, hw', hc', he⟩) | hi)
      · exact a5 (.inl hi)
      · have hne : inv b ks j ≠ g := by
          intro hh
          rcases h2 with h2 | h2
          · rw [inv_old h2] at hh; omega
          · exact hnk (hh ▸ h2.2)
        exact hS.apart _ g h1 hg hne hq (.inl ⟨hw', hc'⟩) he
      · exact a5 (.inr hi)
    refine ⟨?_, hG.wid, fun hw hc => ?_, fun hw => ?_, fun hw he => ?_, fun hw he => ?_⟩
    · show (if j < b then S.cur j else 1) = if j < b then (H.at_ j).ver else 1
      split
      · rename_i hjb; rw [inv_old hjb] at hG; exact hG.ver
      · rfl
    · obtain ⟨⟨cells, TT, us, a1, a2, a3, a4⟩, a5⟩ := hG.live hw hc
      exact ⟨⟨cells, TT, us, a1, a2, keyL a3, a4⟩, hni (.inl ⟨hw, hc⟩)⟩
    · show ((H.at_ (inv b ks j)).xs.map _).length ≤ _; rw [List.length_map]; exact hG.len hw
    · show ((H.at_ (inv b ks j)).xs.map _).length = _; rw [List.length_map]; exact hG.full hw he
    · obtain ⟨⟨es, clock, a1, a2⟩, a5⟩ := hG.mlive hw he
      exact ⟨⟨es, clock, a1, keyL a2⟩, hni (.inr ⟨hw, he⟩)⟩
  · obtain ⟨h1, h2⟩ := hinv j hj
    obtain ⟨h1', h2'⟩ := hinv j' hj'
    refine hS.apart _ _ h1 h1' ?_ hw hw'
    intro hh
    rcases h2 with h2 | ⟨h2, h3⟩ <;> rcases h2' with h2' | ⟨h2', h3'⟩
    · rw [inv_old h2, inv_old h2'] at hh; exact hne hh
    · rw [inv_old h2] at hh; omega
    · rw [inv_old h2'] at hh; omega
    · have hjb : ¬ j < b := fun h => by rw [inv_old h] at h2; omega
      have hjb' : ¬ j' < b := fun h => by rw [inv_old h] at h2'; omega
      have e1 : j - b < ks.length := by have : j < b + ks.length := hj; omega
      have e2 : j' - b < ks.length := by have : j' < b + ks.length := hj'; omega
      have f1 : inv b ks j = ks[j - b] := by simp [inv, hjb, List.getD, List.getElem?_eq_getElem e1]
      have f2 : inv b ks j' = ks[j' - b] := by simp [inv, hjb', List.getD, List.getElem?_eq_getElem e2]
      rw [f1, f2] at hh
      have := (List.getElem_inj hn).1 hh
      omega
  · rcases hc with (hc | ⟨g, hg, _, _, hw, hcap, rfl⟩) | hc
    · exact hS.im c (.inl hc)
    · exact (hS.grp g hg).lt hw hcap
    · exact hS.im c (.inr hc)
theorem T_repack {P : Program} {n : Nat} {c : AC} {env : Env} {Q : Ex → Env → AHeap → Prop} (ks : List Nat) (d : Nat) (hb : b ≤ H.n) (hk : ∀ k ∈ ks, b ≤ k ∧ k < H.n) (hn : ks.Nodup)
    (h : T P n b c (fun i => rnV b H ks d (env i)) (H.repack b ks d) Q) : T P n b c env H Q := by
  intro rd mm hrd code hc S a hbS hS hF
  have hev := repack_evo (ks := ks) hS hbS
  refine wpIn_mono (h rd mm hrd code hc (S.repack b H ks) a (Nat.le_add_right _ _) (repack_rel d hS hb hk hn) ⟨hF.size, hF.defers.of hev.base hev.size hev.keep hev.fresh (fun b hb => hev.kept b (.inr hb)), fun j hj => rn_ok hS d (hF.val j hj)⟩) fun e a w hh => hh.trans (repack_evo hS hbS)
end
end Go.Proofs.Yticodgjinajkpaa.Abs
set_option linter.unusedSimpArgs false
set_option linter.unusedVariables false
namespace Go.Proofs.Yticodgjinajkpaa.Abs
theorem nil_hl : AHeap.nil = hl [] := by
  simp [AHeap.nil, hl]
theorem hl_n (l : List Grp) : (hl l).n = l.length := rfl
theorem SRel.congr {S : MS} {H H' : AHeap} (hn : H'.n = H.n) (h : ∀ g, g < H.n → H'.at_ g = H.at_ g) (hS : SRel S H) : SRel S H' :=
  ⟨hS.n.trans hn.symm, fun g hg => by rw [h g (by omega)]; exact hS.grp g (by omega), fun g g' hg hg' hne hw hw' => by
    rw [h g (by omega)] at hw
    rw [h g' (by omega)] at hw'
    exact hS.apart g g' (by omega) (by omega) hne hw hw', hS.im⟩
theorem ACalls.congr {P : Program} {f : Nat} {xs : List AV} {H H' : AHeap} {K : AV → AHeap → Prop} (hn : H'.n = H.n) (h : ∀ g, g < H.n → H'.at_ g = H.at_ g) (k : ACalls P f xs H' K) : ACalls P f xs H K :=
  ⟨k.1, fun S cargs hS hx => k.2 S cargs (hS.congr hn h) hx⟩
def AHeap.groups (H : AHeap) : List Grp := (List.range H.n).map H.at_
theorem groups_hl (l : List Grp) : (hl l).groups = l := by
  refine List.ext_getElem (by simp [AHeap.groups, hl]) fun i h1 h2 => ?_
  simp [AHeap.groups, hl, h2]
def killL : Nat → List Nat → List Grp → List Grp
  | _, _, [] => []
  | i, ks, G :: l => (if i ∈ ks then G.dead else G) :: killL (i + 1) ks l
theorem killL_len : ∀ (i : Nat) (ks : List Nat) (l : List Grp), (killL i ks l).length = l.length
  | _, _, [] => rfl
  | i, ks, G :: l => by simp [killL, killL_len (i + 1) ks l]
theorem killL_at : ∀ (i : Nat) (ks : List Nat) (l : List Grp) (g : Nat), g < l.length → (killL i ks l).getD g default = if i + g ∈ ks then (l.getD g default).dead else l.getD g default
  | _, _, [], g, h => by simp at h
  | i, ks, G :: l, 0, h => by simp [killL]
  | i, ks, G :: l, g + 1, h => by
    have := killL_at (i + 1) ks l g (by simpa using h)
    have e : i + 1 + g = i + (g + 1) := by omega
    rw [e] at this
    simpa [killL] using this
theorem acalls_frz {P : Program} {f : Nat} {xs : List AV} {l : List Grp} {K : AV → AHeap → Prop} (d : Nat) (ks : List Nat) (hok : ∀ x ∈ xs, frzOk d ((hl l).only ks) x) (h : ACalls P f (xs.map (frzV d ((hl l).only ks))) (hl (killL 0 ks l)) K) : ACalls P f xs (hl l) K := by
  refine acalls_freeze d ks hok (ACalls.congr (H' := hl (killL 0 ks l)) (by simp [hl, AHeap.kill, killL_len]) (fun g hg => ?_) h)
  show (killL 0 ks l).getD g default = if g ∈ ks then (l.getD g default).dead else l.getD g default
  rw [killL_at 0 ks l g hg, Nat.zero_add]
def leH (H : AHeap) (x y : AV) : Prop := ∀ S v, SRel S H → VRel S x v → VRel S y v
section
variable {H : AHeap}
theorem leH_virt' {l : List Grp} {g v len : Nat} (hv : (l.getD g default).ver = v) (hw : 0 < (l.getD g default).w) (hx : (l.getD g default).xs = []) (he : (l.getD g default).exact = true) (hg : g < l.length) (h0 : len = 0) : leH (hl l) .nilS (.ref g v 0 len) := fun S u hS hu => by
  subst h0
  have hG := hS.grp g hg
  rw [hl_at] at hG
  have hf := hG.full hw he
  rw [hx] at hf
  have hc : S.cap g = 0 := hf.symm
  have hu' : u = .slice none 0 0 := hu
  subst hu'
  exact ⟨⟨none, 0, rfl, fun _ => rfl⟩, by rw [hS.n]; exact hg, by rw [hG.ver, hv]; exact Nat.le_refl _, fun _ => ⟨none, 0, rfl, .inr ⟨rfl, rfl, by rw [hc]; exact Nat.le_refl _⟩⟩⟩
end
mutual
def leS (l : List Grp) : AV → AV → Prop
  | .int k a, y => (match y with | .int k' b => k = k' ∧ a = b | .any => True | _ => False)
  | .bool a, y => (match y with | .bool b => a = b | .any => True | _ => False)
  | .nilS, y => (match y with
    | .nilS | .any => True
    | .lst w ys => 0 < w ∧ ys = []
    | .ref g v off len => off = 0 ∧ len = 0 ∧ (l.getD g default).ver = v ∧ 0 < (l.getD g default).w ∧ (l.getD g default).xs = [] ∧ (l.getD g default).exact = true ∧ g < l.length
    | _ => False)
  | .nul, y => (match y with | .nul | .any => True | .lst w ys => 0 < w ∧ ys = [] | _ => False)
  | .emp, y => (match y with | .emp | .any => True | .lst w ys => 0 < w ∧ ys = [] | _ => False)
  | .lst w xs, y => (match y with | .lst w' ys => w = w' ∧ xs = ys | .any => True | _ => False)
  | .full w xs, y => (match y with | .full w' ys => w = w' ∧ xs = ys | .lst w' ys => w = w' ∧ leSL l xs ys ∧ pureL ys = true | .any => True | _ => False)
  | .ref g v o n, y => (match y with | .ref g' v' o' n' => g = g' ∧ v = v' ∧ o = o' ∧ n = n' | .any => True | _ => False)
  | .ptr g v o n, y => (match y with | .ptr g' v' o' n' => g = g' ∧ v = v' ∧ o = o' ∧ n = n' | .any => True | _ => False)
  | .agg xs, y => (match y with | .agg ys => leSL l xs ys | .any => True | _ => False)
  | .tup xs, y => (match y with | .tup ys => leSL l xs ys | .any => True | _ => False)
  | x, y => (match y with | .any => True | y => x = y)
def leSL (l : List Grp) : List AV → List AV → Prop
  | [], ys => ys = []
  | x :: xs, ys => (match ys with | y :: ys => leS l x y ∧ leSL l xs ys | [] => False)
end
mutual
theorem leS_ok {S : MS} {l : List Grp} (hS : SRel S (hl l) ∨ l = []) : ∀ (x : AV) {y : AV} {v : Value}, leS l x y → VRel S x v → VRel S y v
  | .any, y, v, h, hv => by cases y <;> simp only [leS, reduceCtorEq] at h; trivial
  | .int k a, y, v, h, hv => by
    cases y <;> simp only [leS] at h
    · trivial
    · obtain ⟨rfl, rfl⟩ := h; exact hv
  | .bool a, y, v, h, hv => by
    cases y <;> simp only [leS] at h
    · trivial
    · subst h; exact hv
  | .str s, y, v, h, hv => by cases y <;> simp only [leS] at h <;> first | trivial | (cases h; done) | (cases h; exact hv)
  | .nilP, y, v, h, hv => by cases y <;> simp only [leS] at h <;> first | trivial | (cases h; done) | exact hv
  | .nilF, y, v, h, hv => by cases y <;> simp only [leS] at h <;> first | trivial | (cases h; done) | exact hv
  | .yld l, y, v, h, hv => by cases y <;> simp only [leS] at h <;> first | trivial | (cases h; done) | (cases h; exact hv)
  | .cptr x, y, v, h, hv => by cases y <;> simp only [leS] at h <;> first | trivial | (cases h; done) | (cases h; exact hv)
  | .fn f xs, y, v, h, hv => by cases y <;> simp only [leS] at h <;> first | trivial | (cases h; done) | (cases h; exact hv)
  | .nilS, y, v, h, hv => by
    cases y <;> simp only [leS] at h
    · trivial
    · exact hv
    · obtain ⟨h1, rfl⟩ := h; exact AV.le_nilS h1 S v hv
    · obtain ⟨rfl, rfl, h1, h2, h3, h4, h5⟩ := h
      rcases hS with hS | rfl
      · exact leH_virt' h1 h2 h3 h4 h5 rfl S v hS hv
      · exact absurd h5 (Nat.not_lt_zero _)
  | .nul, y, v, h, hv => by
    cases y <;> simp only [leS] at h
    · trivial
    · exact hv
    · obtain ⟨h1, rfl⟩ := h; exact AV.le_nul h1 S v hv
  | .emp, y, v, h, hv => by
    cases y <;> simp only [leS] at h
    · trivial
    · exact hv
    · obtain ⟨h1, rfl⟩ := h; exact AV.le_emp h1 S v hv
  | .lst w xs, y, v, h, hv => by
    cases y <;> simp only [leS] at h
    · trivial
    · obtain ⟨rfl, rfl⟩ := h; exact hv
  | .full w xs, y, v, h, hv => by
    cases y <;> simp only [leS] at h
    · trivial
    · rename_i w' ys
      obtain ⟨rfl, h1, hp⟩ := h
      obtain ⟨_, h0, a, cap, vs, hv, hc, hl, hr⟩ := full_lst hv
      have hn := VsRel.length hl
      have hm := leSL_ok hS xs h1 hl
      have hln : ys.length = xs.length := by rw [← VsRel.length hm, hn]
      exact ⟨hp, h0, a, cap, vs, by rw [hln]; exact hv, by rw [hln]; exact hc, hm, fun hne => hr fun h => hne (by rw [h] at hln; exact List.length_eq_zero_iff.1 hln)⟩
    · obtain ⟨rfl, rfl⟩ := h; exact hv
  | .map g a, y, v, h, hv => by cases y <;> simp only [leS] at h <;> first | trivial | (cases h; done) | (cases h; exact hv)
  | .ref g a o n, y, v, h, hv => by
    cases y <;> simp only [leS] at h
    · trivial
    · obtain ⟨rfl, rfl, rfl, rfl⟩ := h; exact hv
  | .ptr g a o n, y, v, h, hv => by
    cases y <;> simp only [leS] at h
    · trivial
    · obtain ⟨rfl, rfl, rfl, rfl⟩ := h; exact hv
  | .agg xs, y, v, h, hv => by
    cases y <;> simp only [leS] at h
    · trivial
    · obtain ⟨vs, rfl, hr⟩ := hv; exact ⟨vs, rfl, leSL_ok hS xs h hr⟩
  | .tup xs, y, v, h, hv => by
    cases y <;> simp only [leS] at h
    · trivial
    · obtain ⟨vs, rfl, hr⟩ := hv; exact ⟨vs, rfl, leSL_ok hS xs h hr⟩
theorem leSL_ok {S : MS} {l : List Grp} (hS : SRel S (hl l) ∨ l = []) : ∀ (xs : List AV) {ys : List AV} {vs : List Value}, leSL l xs ys → VsRel S xs vs → VsRel S ys vs
  | [], ys, vs, h, hv => by rw [show ys = [] from h]; exact hv
  | x :: xs, [], vs, h, hv => h.elim
  | x :: xs, y :: ys, vs, h, hv => by
    obtain ⟨v, r, rfl, h1, h2⟩ := hv
    exact ⟨v, r, rfl, leS_ok hS x h.1 h1, leSL_ok hS xs h.2 h2⟩
end
theorem leSL_len {l : List Grp} : ∀ {xs ys : List AV}, leSL l xs ys → ys.length = xs.length
  | [], ys, h => by rw [show ys = [] from h]
  | _ :: _, [], h => h.elim
  | _ :: _, _ :: _, h => by simp [leSL_len h.2]
mutual
theorem leS_refl (l : List Grp) : ∀ x : AV, leS l x x
  | .any => trivial
  | .int _ _ => ⟨rfl, rfl⟩
  | .bool _ => rfl
  | .str _ => rfl
  | .nilS => trivial
  | .nul => trivial
  | .emp => trivial
  | .lst _ _ => ⟨rfl, rfl⟩
  | .full _ _ => ⟨rfl, rfl⟩
  | .map _ _ => rfl
  | .ref .. => ⟨rfl, rfl, rfl, rfl⟩
  | .ptr .. => ⟨rfl, rfl, rfl, rfl⟩
  | .cptr _ => rfl
  | .nilP => rfl
  | .nilF => rfl
  | .yld _ => rfl
  | .fn .. => rfl
  | .agg xs => leSL_refl l xs
  | .tup xs => leSL_refl l xs
theorem leSL_refl (l : List Grp) : ∀ xs : List AV, leSL l xs xs
  | [] => rfl
  | x :: xs => ⟨leS_refl l x, leSL_refl l xs⟩
end
theorem leS_le {x y : AV} (h : leS [] x y) : AV.le x y := fun S v hv => leS_ok (.inr rfl) x h hv
theorem leSL_le {xs ys : List AV} (h : leSL [] xs ys) : leL xs ys := fun S v hv => leSL_ok (.inr rfl) xs h hv
def grpLe (l : List Grp) (G G' : Grp) : Prop := G.w = G'.w ∧ G.ver = G'.ver ∧ (G'.exact = true → G.exact = true) ∧ leSL l G.xs G'.xs
def grpsLe (l0 : List Grp) : List Grp → List Grp → Prop
  | [], [] => True
  | G :: l, G' :: l' => grpLe l0 G G' ∧ grpsLe l0 l l'
  | _, _ => False
theorem grpsLe_len {l0 : List Grp} : ∀ {l l' : List Grp}, grpsLe l0 l l' → l'.length = l.length
  | [], [], _ => rfl
  | G :: l, G' :: l', h => by simp [grpsLe_len h.2]
  | [], _ :: _, h => h.elim
  | _ :: _, [], h => h.elim
theorem grpsLe_at {l0 : List Grp} : ∀ {l l' : List Grp}, grpsLe l0 l l' → ∀ g, g < l.length → grpLe l0 (l.getD g default) (l'.getD g default)
  | [], [], _, g, hg => by simp at hg
  | G :: l, G' :: l', h, 0, _ => h.1
  | G :: l, G' :: l', h, g + 1, hg => by simpa using grpsLe_at h.2 g (by simpa using hg)
  | [], _ :: _, h, _, _ => h.elim
  | _ :: _, [], h, _, _ => h.elim
theorem grpsLe_rel {S : MS} {l l' : List Grp} (hS : SRel S (hl l)) (h : grpsLe l l l') : SRel S (hl l') := by
  have hlen := grpsLe_len h
  refine ⟨hS.n.trans hlen.symm, fun g hg => ?_, fun g g' hg hg' hne hw hw' => ?_, hS.im⟩
  · have hg' : g < l.length := by rw [← hlen]; exact hg
    obtain ⟨h1, h2, h3, h5⟩ := grpsLe_at h g hg'
    have h4 : (l.getD g default).xs.length = (l'.getD g default).xs.length := (leSL_len h5).symm
    have hG := hS.grp g hg'
    rw [hl_at] at hG ⊢
    refine ⟨by rw [← h2]; exact hG.ver, by rw [← h1]; exact hG.wid, fun hw hc => ?_, fun hw => by rw [← h4]; exact hG.len (by rw [h1]; exact hw), fun hw he => by rw [← h4]; exact hG.full (by rw [h1]; exact hw) (h3 he), fun hw he => ?_⟩
    rotate_left
    · obtain ⟨⟨es, clock, a1, a2⟩, a5⟩ := hG.mlive (by rw [h1]; exact hw) (h3 he)
      exact ⟨⟨es, clock, a1, leSL_ok (.inl hS) _ h5 a2⟩, a5⟩
    obtain ⟨⟨cells, TT, us, a1, a2, a3, a4⟩, a5⟩ := hG.live (by rw [h1]; exact hw) hc
    exact ⟨⟨cells, TT, us, a1, by rw [← h1]; exact a2, leSL_ok (.inl hS) _ h5 a3, by rw [← h1]; exact a4⟩, a5⟩
  · have hg1 : g < l.length := by rw [← hlen]; exact hg
    have hg1' : g' < l.length := by rw [← hlen]; exact hg'
    have key : ∀ g, g < l.length → ((hl l').at_ g).has (S.cap g) → ((hl l).at_ g).has (S.cap g) := fun g hg hh => by
      obtain ⟨k1, _, k3, _⟩ := grpsLe_at h g hg
      rw [hl_at] at hh ⊢
      rcases hh with ⟨q1, q2⟩ | ⟨q1, q2⟩
      · exact .inl ⟨by rw [k1]; exact q1, q2⟩
      · exact .inr ⟨by rw [k1]; exact q1, k3 q2⟩
    exact hS.apart g g' hg1 hg1' hne (key g hg1 hw) (key g' hg1' hw')
inductive Src where
  | grp (g : Nat)
  | virt (w : Nat)
def srcOf (w : Nat) : AV → Src
  | .ref g _ _ _ => .grp g
  | .ptr g _ _ _ => .grp g
  | .map g _ => .grp g
  | _ => .virt w
def cellAt (H : AHeap) (x : AV) (k : Nat) : AV := match x with
  | .ptr g _ i _ => ((H.at_ g).xs.getD i .any).cells.getD k .any
  | _ => .any
def srcKs : Nat → List Src → List Nat × List Nat
  | _, [] => ([], [])
  | N, .grp g :: r => (g :: (srcKs N r).1, (srcKs N r).2)
  | N, .virt w :: r => (N :: (srcKs (N + 1) r).1, w :: (srcKs (N + 1) r).2)
def virtG (w : Nat) : Grp := ⟨w, 1, true, []⟩
def mkEnv : List (Nat × AV) → Env
  | [], _ => .any
  | (t, x) :: l, j => if j = t then x else mkEnv l j
def liveLe (l2 : List Grp) (H1 : AHeap) (b : Nat) (ks : List Nat) (env : Env) : List (Nat × AV) → Prop
  | [] => True
  | (t, y) :: r => leS l2 (rnV b H1 ks 6 (env t)) y ∧ liveLe l2 H1 b ks env r
def allB (b n : Nat) : List Nat → Prop
  | [] => True
  | k :: r => b ≤ k ∧ k < n ∧ allB b n r
def diffr : List Nat → Prop
  | [] => True
  | k :: r => k ∉ r ∧ diffr r
def rnG (b : Nat) (H : AHeap) (ks : List Nat) (v : Nat) (G : Grp) : Grp := ⟨G.w, v, G.exact, G.xs.map (rnV b H ks 6)⟩
def repackO (b : Nat) (H : AHeap) (ks : List Nat) : List Grp → List Grp
  | [] => []
  | G :: l => rnG b H ks G.ver G :: repackO b H ks l
def repackN (b : Nat) (H : AHeap) (ks : List Nat) (l : List Grp) : List Nat → List Grp
  | [] => []
  | k :: r => rnG b H ks 1 (l.getD k default) :: repackN b H ks l r
def Head3 (b : Nat) (env : Env) (l1 l2 : List Grp) (ks : List Nat) (live : List (Nat × AV)) (heap : List Grp) : Prop := liveLe l2 (hl l1) b ks env live ∧ grpsLe l2 l2 heap
def Head2 (b : Nat) (env : Env) (l1 : List Grp) (ks : List Nat) (live : List (Nat × AV)) (heap : List Grp) : Prop :=
  allB b l1.length ks ∧ diffr ks ∧ Head3 b env l1 (repackO b (hl l1) ks (l1.take b) ++ repackN b (hl l1) ks l1 ks) ks live heap
def allPos : List Nat → Prop
  | [] => True
  | w :: r => 0 < w ∧ allPos r
theorem allPos_mem : ∀ {ws : List Nat}, allPos ws → ∀ w ∈ ws, 0 < w
  | [], _, w, hw => by simp at hw
  | k :: r, h, w, hw => by
    rcases List.mem_cons.1 hw with rfl | hw
    · exact h.1
    · exact allPos_mem h.2 w hw
def Head1 (b : Nat) (env : Env) (l : List Grp) (p : List Nat × List Nat) (live : List (Nat × AV)) (heap : List Grp) : Prop := allPos p.2 ∧ Head2 b env (l ++ p.2.map virtG) p.1 live heap
def Head (b : Nat) (env : Env) (H : AHeap) (srcs : List Src) (live : List (Nat × AV)) (heap : List Grp) : Prop := b ≤ H.n ∧ Head1 b env H.groups (srcKs H.n srcs) live heap
section
variable {P : Program} {n b : Nat} {env : Env} {H : AHeap} {Q : Ex → Env → AHeap → Prop}
theorem head_hl {l : List Grp} {srcs : List Src} {live : List (Nat × AV)} {heap : List Grp} : Head b env (hl l) srcs live heap = (b ≤ l.length ∧ Head1 b env l (srcKs l.length srcs) live heap) := by
  rw [Head, groups_hl, hl_n]
theorem T_virt0 {c : AC} (w : Nat) (hw0 : 0 < w) (h : T P n b c env (H.push ⟨w, 1, true, []⟩) Q) : T P n b c env H Q := by
  intro rd mm hrd code hc S a hb hS hF
  exact wpIn_mono (h rd mm hrd code hc (S.virt w) a (Nat.le_succ_of_le hb) (hS.virt w hw0) ⟨hF.size, hF.defers.mono (Evo.virt _), fun j hj => VRel.mono (Evo.virt _) _ (hF.val j hj)⟩) fun e a w hh => hh.trans ((Evo.virt _).down hb)
theorem T_virtL {c : AC} : ∀ (ws : List Nat) {l : List Grp}, (∀ w ∈ ws, 0 < w) → T P n b c env (hl (l ++ ws.map virtG)) Q → T P n b c env (hl l) Q
  | [], l, _, h => by simpa using h
  | w :: ws, l, hw, h => T_virt0 w (hw w (by simp)) (by rw [hl_push]; exact T_virtL ws (fun w' h' => hw w' (by simp [h'])) (by simpa [virtG] using h))
theorem T_congr {c : AC} {H' : AHeap} (hn : H'.n = H.n) (h : ∀ g, g < H.n → H'.at_ g = H.at_ g) (k : T P n b c env H' Q) : T P n b c env H Q :=
  fun rd mm hrd code hc S a hb hS hF => k rd mm hrd code hc S a hb (hS.congr hn h) hF
theorem allB_mem {m : Nat} : ∀ {ks : List Nat}, allB b m ks → ∀ k ∈ ks, b ≤ k ∧ k < m
  | [], _, k, hk => by simp at hk
  | k :: r, h, j, hj => by
    rcases List.mem_cons.1 hj with rfl | hj
    · exact ⟨h.1, h.2.1⟩
    · exact allB_mem h.2.2 j hj
theorem diffr_nodup : ∀ {ks : List Nat}, diffr ks → ks.Nodup
  | [], _ => List.nodup_nil
  | k :: r, h => List.nodup_cons.2 ⟨h.1, diffr_nodup h.2⟩
theorem repackO_len {H : AHeap} {ks : List Nat} : ∀ {l : List Grp}, (repackO b H ks l).length = l.length
  | [] => rfl
  | G :: l => by simp [repackO, repackO_len]
theorem repackO_at {H : AHeap} {ks : List Nat} : ∀ {l : List Grp} {g : Nat}, g < l.length → (repackO b H ks l).getD g default = rnG b H ks (l.getD g default).ver (l.getD g default)
  | [], g, h => by simp at h
  | G :: l, 0, _ => rfl
  | G :: l, g + 1, h => by simpa [repackO] using repackO_at (l := l) (g := g) (by simpa using h)
theorem repackN_len {H : AHeap} {ks : List Nat} {l : List Grp} : ∀ {r : List Nat}, (repackN b H ks l r).length = r.length
  | [] => rfl
  | k :: r => by simp [repackN, repackN_len]
theorem repackN_at {H : AHeap} {ks : List Nat} {l : List Grp} : ∀ {r : List Nat} {j : Nat}, j < r.length → (repackN b H ks l r).getD j default = rnG b H ks 1 (l.getD (r.getD j 0) default)
  | [], j, h => by simp at h
  | k :: r, 0, _ => rfl
  | k :: r, j + 1, h => by simpa [repackN] using repackN_at (r := r) (j := j) (by simpa using h)
theorem repack_hl {l1 : List Grp} {ks : List Nat} (hb : b ≤ l1.length) : ((hl (repackO b (hl l1) ks (l1.take b) ++ repackN b (hl l1) ks l1 ks)).n = ((hl l1).repack b ks 6).n) ∧
    ∀ g, g < ((hl l1).repack b ks 6).n → (hl (repackO b (hl l1) ks (l1.take b) ++ repackN b (hl l1) ks l1 ks)).at_ g = ((hl l1).repack b ks 6).at_ g := by
  have hO : (repackO b (hl l1) ks (l1.take b)).length = b := by rw [repackO_len, List.length_take]; omega
  refine ⟨?_, fun g hg => ?_⟩
  · show (repackO b (hl l1) ks (l1.take b) ++ repackN b (hl l1) ks l1 ks).length = b + ks.length
    rw [List.length_append, hO, repackN_len]
  · have hg' : g < b + ks.length := hg
    rw [hl_at]
    show _ = (⟨_, if g < b then (l1.getD g default).ver else 1, _, _⟩ : Grp)
    by_cases hgb : g < b
    · rw [if_pos hgb, inv_old hgb]
      have e : (repackO b (hl l1) ks (l1.take b) ++ repackN b (hl l1) ks l1 ks).getD g default = (repackO b (hl l1) ks (l1.take b)).getD g default := by
        simp [List.getD, List.getElem?_append_left (show g < (repackO b (hl l1) ks (l1.take b)).length by omega)]
      have e2 : (l1.take b).getD g default = l1.getD g default := by
        simp [List.getD, hgb]
      rw [e, repackO_at (by simp; omega), e2]
      rfl
    · rw [if_neg hgb]
      have e : (repackO b (hl l1) ks (l1.take b) ++ repackN b (hl l1) ks l1 ks).getD g default = (repackN b (hl l1) ks l1 ks).getD (g - b) default := by
        have := List.getElem?_append_right (l₁ := repackO b (hl l1) ks (l1.take b)) (l₂ := repackN b (hl l1) ks l1 ks) (i := g) (by omega)
        rw [hO] at this
        simp [List.getD, this]
      rw [e, repackN_at (by omega)]
      have e3 : inv b ks g = ks.getD (g - b) 0 := by rw [inv, if_neg hgb]
      rw [e3]
      rfl
theorem liveLe_at {S : MS} {l2 : List Grp} {H1 : AHeap} {ks : List Nat} {a : Act} (hS : SRel S (hl l2)) (hF : FRel S n (fun i => rnV b H1 ks 6 (env i)) a) : ∀ {live : List (Nat × AV)}, liveLe l2 H1 b ks env live → ∀ i, i < n → VRel S (mkEnv live i) (a.tmps.getD i undef)
  | [], _, i, _ => trivial
  | (t, y) :: r, h, i, hi => by
    show VRel S (if i = t then y else mkEnv r i) _
    split
    · rename_i hit
      subst hit
      exact leS_ok (.inl hS) _ h.1 (hF.val i hi)
    · exact liveLe_at hS hF h.2 i hi
theorem T_head {c : AC} {srcs : List Src} {live : List (Nat × AV)} {heap : List Grp} (hh : Head b env H srcs live heap) (h : T P n b c (mkEnv live) (hl heap) Q) : T P n b c env H Q := by
  obtain ⟨hb, hh⟩ := hh
  have hgn : H.groups.length = H.n := by simp [AHeap.groups]
  refine T_congr (H' := hl H.groups) hgn (fun g hg => ?_) ?_
  · show H.groups.getD g default = _
    simp [AHeap.groups, List.getD, hg]
  refine T_virtL (srcKs H.n srcs).2 (allPos_mem hh.1) ?_
  replace hh := hh.2
  generalize hl1 : H.groups ++ (srcKs H.n srcs).2.map virtG = l1
  simp only [hl1] at hh
  obtain ⟨h1, h2, h3, h4⟩ := hh
  have hb1 : b ≤ l1.length := by rw [← hl1, List.length_append]; omega
  refine T_repack (srcKs H.n srcs).1 6 hb1 (fun k hk => allB_mem h1 k hk) (diffr_nodup h2) ?_
  obtain ⟨e1, e2⟩ := repack_hl (ks := (srcKs H.n srcs).1) hb1
  refine T_congr e1 e2 ?_
  intro rd mm hrd code hc S a hbS hS hF
  have hlen := grpsLe_len h4
  exact h rd mm hrd code hc S a hbS (grpsLe_rel hS h4) ⟨hF.size, hF.defers, liveLe_at hS hF h3⟩
theorem T_loopR {σ : Type} (Fact : σ → Prop) (μ : σ → Nat) (live : σ → List (Nat × AV)) (heap : σ → List Grp) (srcs : Env → AHeap → List Src) {c : AC} (s0 : σ) (h0 : Fact s0) (he : Head b env H (srcs env H) (live s0) (heap s0))
    (round : ∀ s, Fact s → T P n b c (mkEnv (live s)) (hl (heap s)) (Ex.then (fun env' H' => ∃ s', Head b env' H' (srcs env' H') (live s') (heap s') ∧ Fact s' ∧ μ s' < μ s) Q)) : T P n b (.loop c) env H Q := by
  refine T_loop (fun s env H => Fact s ∧ Head b env H (srcs env H) (live s) (heap s)) μ s0 ⟨h0, he⟩ fun s env H hI => ?_
  refine T_head hI.2 (T.mono (round s hI.1) fun x env' H' hh => ?_)
  cases x with
  | normal => obtain ⟨s', k1, k2, k3⟩ := hh; exact ⟨s', ⟨k2, k1⟩, k3⟩
  | exit id => exact hh
  | ret => exact hh
end
end Go.Proofs.Yticodgjinajkpaa.Abs
set_option linter.unusedSimpArgs false
set_option linter.unusedVariables false
namespace Go.Proofs.Yticodgjinajkpaa.Abs
def hset (l : List Grp) (g : Nat) (G : Grp) : AHeap := (hl l).set g G
def setQ : List Grp → Nat → Grp → Option (List Grp)
  | [], _, _ => none
  | _ :: l, 0, G => some (G :: l)
  | K :: l, g + 1, G => (setQ l g G).map (K :: ·)
theorem setQ_some : ∀ {l : List Grp} {g : Nat} {G : Grp} {l' : List Grp}, setQ l g G = some l' → g < l.length ∧ l' = l.set g G
  | [], _, _, _, h => by cases h
  | _ :: l, 0, G, _, h => by cases h; exact ⟨by simp, rfl⟩
  | K :: l, g + 1, G, l', h => by
    obtain ⟨r, hr, rfl⟩ := Option.map_eq_some_iff.1 h
    obtain ⟨h1, rfl⟩ := setQ_some hr
    exact ⟨by simpa using h1, rfl⟩
theorem hl_setQ (l : List Grp) (g : Nat) (G : Grp) : (hl l).set g G = (match setQ l g G with | some l' => hl l' | none => hset l g G) := by
  cases h : setQ l g G with
  | none => rfl
  | some l' => obtain ⟨h1, rfl⟩ := setQ_some h; exact hl_set l g G h1
theorem setQ_zero (K : Grp) (l : List Grp) (G : Grp) : setQ (K :: l) 0 G = some (G :: l) := rfl
theorem setQ_succ (K : Grp) (l : List Grp) (g : Nat) (G : Grp) : setQ (K :: l) (g + 1) G = (setQ l g G).map (K :: ·) := rfl
theorem pos_nil (g : Nat) : pos [] g = none := rfl
theorem pos_cons (k : Nat) (ks : List Nat) (g : Nat) : pos (k :: ks) g = if g = k then some 0 else (pos ks g).map (· + 1) := rfl
section
variable {b d : Nat} {H : AHeap} {ks : List Nat}
def rnL (b : Nat) (H : AHeap) (ks : List Nat) (d : Nat) (xs : List AV) : List AV := xs.map (rnV b H ks d)
theorem rn_map (xs : List AV) : xs.map (rnV b H ks (d + 1)) = bif pureL xs then xs else rnL b H ks (d + 1) xs := by
  cases h : pureL xs
  · rfl
  · have key : ∀ (d : Nat) {x : AV}, x.pure = true → rnV b H ks d x = x := by
      intro d
      induction d with
      | zero => intro x hx; simp [rnV, hx]
      | succ d ih =>
        intro x hx
        have kl : ∀ cs : List AV, pureL cs = true → cs.map (rnV b H ks d) = cs := fun cs hc => by
          have : cs.map (rnV b H ks d) = cs.map id := List.map_congr_left fun y hy => ih (pureL_mem.1 hc y hy)
          simpa using this
        cases x with
        | ref => simp [AV.pure] at hx
        | ptr => simp [AV.pure] at hx
        | map => simp [AV.pure] at hx
        | agg cs => rw [rnV, kl cs (by simpa [AV.pure] using hx)]
        | tup cs => rw [rnV, kl cs (by simpa [AV.pure] using hx)]
        | fn f cs => rw [rnV, kl cs (by simpa [AV.pure] using hx)]
        | _ => rfl
    have : xs.map (rnV b H ks (d + 1)) = xs.map id := List.map_congr_left fun y hy => key _ (pureL_mem.1 h y hy)
    simpa using this
theorem rnL_nil : rnL b H ks d [] = [] := rfl
theorem rnL_cons (x : AV) (xs : List AV) : rnL b H ks d (x :: xs) = rnV b H ks d x :: rnL b H ks d xs := rfl
theorem rn_ref (g v off len : Nat) : rnV b H ks (d + 1) (.ref g v off len) = if g < b then .ref g v off len else if v = (H.at_ g).ver then
      (match pos ks g with
       | some j => .ref (b + j) 1 off len
       | none => if 0 < (H.at_ g).w ∧ off + len ≤ (H.at_ g).xs.length then frzL (H.at_ g).w ((((H.at_ g).xs.drop off).take len).map (rnV b H ks d)) else .any)
      else .any := rfl
theorem rn_ptr (g v i o : Nat) : rnV b H ks (d + 1) (.ptr g v i o) = if g < b then .ptr g v i o else if v = (H.at_ g).ver then
      (match pos ks g with
       | some j => .ptr (b + j) 1 i o
       | none => if o = 0 ∧ i < (H.at_ g).xs.length ∧ 0 < (H.at_ g).w then frzP (rnV b H ks d ((H.at_ g).xs.getD i .any)) else .any)
      else .any := rfl
theorem rn_agg (cs : List AV) : rnV b H ks (d + 1) (.agg cs) = .agg (cs.map (rnV b H ks d)) := rfl
theorem rn_tup (cs : List AV) : rnV b H ks (d + 1) (.tup cs) = .tup (cs.map (rnV b H ks d)) := rfl
theorem rn_fn (f : Nat) (cs : List AV) : rnV b H ks (d + 1) (.fn f cs) = .fn f (cs.map (rnV b H ks d)) := rfl
theorem rn_any : rnV b H ks (d + 1) .any = .any := rfl
theorem rn_full (w : Nat) (xs : List AV) : rnV b H ks (d + 1) (.full w xs) = .full w xs := rfl
theorem rn_mp (g v : Nat) : rnV b H ks (d + 1) (.map g v) = if g < b then .map g v else if v = (H.at_ g).ver then (match pos ks g with | some j => .map (b + j) 1 | none => .any) else .any := rfl
theorem rn_bool (q : Bool) : rnV b H ks (d + 1) (.bool q) = .bool q := rfl
theorem rn_int (k : IntKind) (n : Int) : rnV b H ks (d + 1) (.int k n) = .int k n := rfl
theorem rn_str (s : List UInt8) : rnV b H ks (d + 1) (.str s) = .str s := rfl
theorem rn_nilS : rnV b H ks (d + 1) .nilS = .nilS := rfl
theorem rn_nul : rnV b H ks (d + 1) .nul = .nul := rfl
theorem rn_nilP : rnV b H ks (d + 1) .nilP = .nilP := rfl
theorem rn_nilF : rnV b H ks (d + 1) .nilF = .nilF := rfl
theorem rn_yld (l : Nat) : rnV b H ks (d + 1) (.yld l) = .yld l := rfl
theorem rn_lst (w : Nat) (xs : List AV) : rnV b H ks (d + 1) (.lst w xs) = .lst w xs := rfl
theorem rn_cptr (x : AV) : rnV b H ks (d + 1) (.cptr x) = .cptr x := rfl
end
section
variable {l l0 l' : List Grp} {G G' : Grp}
theorem gl_nil : grpsLe l0 [] [] = True := rfl
theorem gl_cons : grpsLe l0 (G :: l) (G' :: l') = (grpLe l0 G G' ∧ grpsLe l0 l l') := rfl
theorem g_le : grpLe l0 G G' = (G.w = G'.w ∧ G.ver = G'.ver ∧ (G'.exact = true → G.exact = true) ∧ leSL l0 G.xs G'.xs) := rfl
theorem ls_self {x : AV} : leS l x x = True := eq_true (leS_refl l x)
theorem lsl_self {xs : List AV} : leSL l xs xs = True := eq_true (leSL_refl l xs)
theorem lsl_nil {ys : List AV} : leSL l [] ys = (ys = []) := by simp only [leSL]
theorem lsl_cons {x y : AV} {xs ys : List AV} : leSL l (x :: xs) (y :: ys) = (leS l x y ∧ leSL l xs ys) := by simp only [leSL]
theorem ls_int_int {k : IntKind} {a : Int} {k' : IntKind} {b : Int} : leS l (.int k a) (.int k' b) = (k = k' ∧ a = b) := by simp only [leS]
theorem ls_bool_bool {a : Bool} {b : Bool} : leS l (.bool a) (.bool b) = (a = b) := by simp only [leS]
theorem ls_nilS_lst  {w : Nat} {ys : List AV} : leS l .nilS (.lst w ys) = (0 < w ∧ ys = []) := by simp only [leS]
theorem ls_nilS_ref  {g v o n : Nat} : leS l .nilS (.ref g v o n) = (o = 0 ∧ n = 0 ∧ (l.getD g default).ver = v ∧ 0 < (l.getD g default).w ∧ (l.getD g default).xs = [] ∧ (l.getD g default).exact = true ∧ g < l.length) := by simp only [leS]
theorem ls_nul_lst  {w : Nat} {ys : List AV} : leS l .nul (.lst w ys) = (0 < w ∧ ys = []) := by simp only [leS]
theorem ls_emp_lst  {w : Nat} {ys : List AV} : leS l .emp (.lst w ys) = (0 < w ∧ ys = []) := by simp only [leS]
theorem ls_full_full {w : Nat} {xs : List AV} {w' : Nat} {ys : List AV} : leS l (.full w xs) (.full w' ys) = (w = w' ∧ xs = ys) := by simp only [leS]
theorem ls_full_lst {w : Nat} {xs : List AV} {w' : Nat} {ys : List AV} : leS l (.full w xs) (.lst w' ys) = (w = w' ∧ leSL l xs ys ∧ pureL ys = true) := by simp only [leS]
theorem ls_map_map {g v g' v' : Nat} : leS l (.map g v) (.map g' v') = (g = g' ∧ v = v') := by simp only [leS, AV.map.injEq]
theorem ls_lst_lst {w : Nat} {xs : List AV} {w' : Nat} {ys : List AV} : leS l (.lst w xs) (.lst w' ys) = (w = w' ∧ xs = ys) := by simp only [leS]
theorem ls_ref_ref {g v o n : Nat} {g' v' o' n' : Nat} : leS l (.ref g v o n) (.ref g' v' o' n') = (g = g' ∧ v = v' ∧ o = o' ∧ n = n') := by simp only [leS]
theorem ls_ptr_ptr {g v o n : Nat} {g' v' o' n' : Nat} : leS l (.ptr g v o n) (.ptr g' v' o' n') = (g = g' ∧ v = v' ∧ o = o' ∧ n = n') := by simp only [leS]
theorem ls_agg_agg {xs : List AV} {ys : List AV} : leS l (.agg xs) (.agg ys) = leSL l xs ys := by simp only [leS]
theorem ls_tup_tup {xs : List AV} {ys : List AV} : leS l (.tup xs) (.tup ys) = leSL l xs ys := by simp only [leS]
theorem ls_any {x : AV} : leS l x .any = True := eq_true (by cases x <;> simp only [leS])
def ansW (x y : AV) : Prop := leS [] x y
theorem an_self {x : AV} : ansW x x = True := ls_self
theorem an_int {k k' : IntKind} {a b : Int} : ansW (.int k a) (.int k' b) = (k = k' ∧ a = b) := ls_int_int
theorem an_bool {a b : Bool} : ansW (.bool a) (.bool b) = (a = b) := ls_bool_bool
theorem an_full {w w' : Nat} {xs ys : List AV} : ansW (.full w xs) (.lst w' ys) = (w = w' ∧ leSL [] xs ys ∧ pureL ys = true) := ls_full_lst
theorem an_lst {w w' : Nat} {xs ys : List AV} : ansW (.lst w xs) (.lst w' ys) = (w = w' ∧ xs = ys) := ls_lst_lst
theorem an_nilS {w : Nat} {ys : List AV} : ansW .nilS (.lst w ys) = (0 < w ∧ ys = []) := ls_nilS_lst
theorem an_nul {w : Nat} {ys : List AV} : ansW .nul (.lst w ys) = (0 < w ∧ ys = []) := ls_nul_lst
theorem an_emp {w : Nat} {ys : List AV} : ansW .emp (.lst w ys) = (0 < w ∧ ys = []) := ls_emp_lst
theorem an_agg {xs ys : List AV} : ansW (.agg xs) (.agg ys) = leSL [] xs ys := ls_agg_agg
theorem an_tup {xs ys : List AV} : ansW (.tup xs) (.tup ys) = leSL [] xs ys := ls_tup_tup
end
attribute [push_cast] ls_full_full ls_full_lst ls_map_map an_full rn_full rn_mp
attribute [push_cast] ls_self lsl_self lsl_nil lsl_cons ls_int_int ls_bool_bool ls_nilS_lst ls_nilS_ref ls_nul_lst ls_emp_lst ls_lst_lst ls_ref_ref ls_ptr_ptr ls_agg_agg ls_tup_tup ls_any an_self an_int an_bool an_lst an_nilS an_nul an_emp an_agg
section
variable {H H1 : AHeap} {l0 : List Grp} {b t : Nat} {ks : List Nat} {env : Env} {y : AV} {r : List (Nat × AV)}
theorem live_nil : liveLe l0 H1 b ks env [] = True := rfl
theorem live_cons : liveLe l0 H1 b ks env ((t, y) :: r) = (leS l0 (rnV b H1 ks 6 (env t)) y ∧ liveLe l0 H1 b ks env r) := rfl
theorem allB_nil {n : Nat} : allB b n [] = True := rfl
theorem allB_cons {n k : Nat} : allB b n (k :: ks) = (b ≤ k ∧ k < n ∧ allB b n ks) := rfl
theorem diffr_nil : diffr [] = True := rfl
theorem diffr_cons {k : Nat} : diffr (k :: ks) = (k ∉ ks ∧ diffr ks) := rfl
theorem srcOf_ref {w g v o n : Nat} : srcOf w (.ref g v o n) = .grp g := rfl
theorem srcOf_ptr {w g v i o : Nat} : srcOf w (.ptr g v i o) = .grp g := rfl
theorem srcOf_map {w g v : Nat} : srcOf w (.map g v) = .grp g := rfl
theorem allPos_nil : allPos [] = True := rfl
theorem allPos_cons {w : Nat} {r : List Nat} : allPos (w :: r) = (0 < w ∧ allPos r) := rfl
theorem srcOf_nilS {w : Nat} : srcOf w .nilS = .virt w := rfl
theorem cellAt_ptr {g v i o k : Nat} : cellAt H (.ptr g v i o) k = ((H.at_ g).xs.getD i .any).cells.getD k .any := rfl
theorem ks_nil {N : Nat} : srcKs N [] = ([], []) := rfl
theorem ks_grp {N g : Nat} {l : List Src} : srcKs N (.grp g :: l) = (g :: (srcKs N l).1, (srcKs N l).2) := rfl
theorem ks_virt {N w : Nat} {l : List Src} : srcKs N (.virt w :: l) = (N :: (srcKs (N + 1) l).1, w :: (srcKs (N + 1) l).2) := rfl
theorem mk_nil {j : Nat} : mkEnv [] j = .any := rfl
theorem mk_cons {j : Nat} : mkEnv ((t, y) :: r) j = if j = t then y else mkEnv r j := rfl
variable {l l1 l2 : List Grp} {G : Grp} {live : List (Nat × AV)} {heap : List Grp}
theorem head1 {p q : List Nat} : Head1 b env l (p, q) live heap = (allPos q ∧ Head2 b env (l ++ q.map virtG) p live heap) := rfl
theorem head2 : Head2 b env l1 ks live heap = (allB b l1.length ks ∧ diffr ks ∧ Head3 b env l1 (repackO b (hl l1) ks (l1.take b) ++ repackN b (hl l1) ks l1 ks) ks live heap) := rfl
theorem head3 : Head3 b env l1 l2 ks live heap = (liveLe l2 (hl l1) b ks env live ∧ grpsLe l2 l2 heap) := rfl
theorem ro_nil : repackO b H ks [] = [] := rfl
theorem ro_cons : repackO b H ks (G :: l) = rnG b H ks G.ver G :: repackO b H ks l := rfl
theorem rn_nil : repackN b H ks l [] = [] := rfl
theorem rn_cons {k : Nat} {r : List Nat} : repackN b H ks l (k :: r) = rnG b H ks 1 (l.getD k default) :: repackN b H ks l r := rfl
theorem rn_grp {v : Nat} : rnG b H ks v G = ⟨G.w, v, G.exact, G.xs.map (rnV b H ks 6)⟩ := rfl
end
theorem kill_nil (i : Nat) (ks : List Nat) : killL i ks [] = [] := rfl
theorem kill_cons (i : Nat) (ks : List Nat) (G : Grp) (l : List Grp) : killL i ks (G :: l) = (if i ∈ ks then G.dead else G) :: killL (i + 1) ks l := rfl
theorem virt_eq (w : Nat) : virtG w = ⟨w, 1, true, []⟩ := rfl
theorem frzL_eq (w : Nat) (xs : List AV) : frzL w xs = bif pureL xs then .lst w xs else .any := rfl
theorem frzP_eq (x : AV) : frzP x = bif x.pure then .cptr x else .any := rfl
theorem pureL_app (xs ys : List AV) : pureL (xs ++ ys) = (pureL xs && pureL ys) := by
  induction xs with
  | nil => rfl
  | cons x xs ih => simp [pureL, ih, Bool.and_assoc]
theorem toNat_pred (i : Nat) : ((i : Int) - 1).toNat = i - 1 := by omega
theorem toNat_succ (i : Nat) : ((i : Int) + 1).toNat = i + 1 := by omega
theorem toNat_add (i k : Nat) : ((i : Int) + (k : Int)).toNat = i + k := by omega
theorem drop_at {α : Type} [Inhabited α] {l : List α} {i : Nat} (h : i < l.length) : l.drop i = nth l i :: l.drop (i + 1) := by
  rw [List.drop_eq_getElem_cons h]; simp [nth, List.getD, h]
theorem take_at {α : Type} [Inhabited α] {l : List α} {i : Nat} (h : i < l.length) : l.take (i + 1) = l.take i ++ [nth l i] := by
  rw [List.take_succ_eq_append_getElem h]; simp [nth, List.getD, h]
theorem nth_mem {α : Type} [Inhabited α] {l : List α} {i : Nat} (h : i < l.length) : nth l i ∈ l := by
  have : nth l i = l[i] := by simp [nth, List.getD, h]
  rw [this]; exact List.getElem_mem h
theorem mem_nat (g k : Nat) (ks : List Nat) : (g ∈ k :: ks) = (g = k ∨ g ∈ ks) := by simp
theorem mem_nil_nat (g : Nat) : (g ∈ ([] : List Nat)) = False := by simp
theorem only_if (H : AHeap) (ks : List Nat) (g : Nat) : (H.only ks).at_ g = if g ∈ ks then H.at_ g else (H.at_ g).dead := rfl
def grpsOf : List AV → List Nat
  | [] => []
  | .ref g _ _ _ :: l => g :: grpsOf l
  | .ptr g _ _ _ :: l => g :: grpsOf l
  | .agg cs :: l => grpsOf cs ++ grpsOf l
  | .fn _ cs :: l => grpsOf cs ++ grpsOf l
  | _ :: l => grpsOf l
theorem grps_lst {w : Nat} {xs l : List AV} : grpsOf (.lst w xs :: l) = grpsOf l := by rw [grpsOf] <;> (intros; simp_all)
theorem grps_cptr {x : AV} {l : List AV} : grpsOf (.cptr x :: l) = grpsOf l := by rw [grpsOf] <;> (intros; simp_all)
theorem grps_int {k : IntKind} {n : Int} {l : List AV} : grpsOf (.int k n :: l) = grpsOf l := by rw [grpsOf] <;> (intros; simp_all)
theorem grps_bool {b : Bool} {l : List AV} : grpsOf (.bool b :: l) = grpsOf l := by rw [grpsOf] <;> (intros; simp_all)
theorem grps_nilS {l : List AV} : grpsOf (.nilS :: l) = grpsOf l := by rw [grpsOf] <;> (intros; simp_all)
theorem grps_ref {g v o n : Nat} {l : List AV} : grpsOf (.ref g v o n :: l) = g :: grpsOf l := by rw [grpsOf]
theorem grps_ptr {g v o n : Nat} {l : List AV} : grpsOf (.ptr g v o n :: l) = g :: grpsOf l := by rw [grpsOf]
theorem grps_agg {cs l : List AV} : grpsOf (.agg cs :: l) = grpsOf cs ++ grpsOf l := by rw [grpsOf]
theorem grps_fn {f : Nat} {cs l : List AV} : grpsOf (.fn f cs :: l) = grpsOf cs ++ grpsOf l := by rw [grpsOf]
theorem grps_nil : grpsOf [] = [] := by rw [grpsOf]
attribute [push_cast] grps_lst grps_cptr grps_int grps_bool grps_nilS grps_ref grps_ptr grps_agg grps_fn grps_nil
def okA (d : Nat) (H : AHeap) : List AV → Prop
  | [] => True
  | x :: l => frzOk d H x ∧ okA d H l
section
variable {P : Program} {f : Nat} {xs ys : List AV} {y : AV} {l : List Grp} {H : AHeap}
theorem okA_mem {d : Nat} : ∀ {xs : List AV}, okA d H xs → ∀ x ∈ xs, frzOk d H x
  | [], _, x, hx => by simp at hx
  | z :: r, h, x, hx => by
    rcases List.mem_cons.1 hx with rfl | hx
    · exact h.1
    · exact okA_mem h.2 x hx
theorem okA_nil {d : Nat} : okA d H [] = True := rfl
theorem okA_cons {d : Nat} {x : AV} : okA d H (x :: xs) = (frzOk d H x ∧ okA d H xs) := rfl
theorem pc_weak (h : PC P f ys y) (hl : leL xs ys) : PC P f xs y := acalls_le hl h
def chB (c : Bool) (p q : Prop) : Prop := match c with
  | true => p
  | false => q
theorem chB_true {p q : Prop} : chB true p q = p := rfl
theorem chB_false {p q : Prop} : chB false p q = q := rfl
def frA (d : Nat) (H : AHeap) (xs : List AV) : List AV := xs.map (frzV d H)
theorem frA_nil {d : Nat} : frA d H [] = [] := rfl
theorem frA_cons {d : Nat} {x : AV} : frA d H (x :: xs) = frzV d H x :: frA d H xs := rfl
theorem cK {K : AV → AHeap → Prop} (h : PC P f ys y) (hh : chB (pureL xs) (leSL [] xs ys ∧ pureL ys = true ∧ @nx y (hl l) ⟨K⟩)
    (chB y.flat (okA 4 (hl l) xs ∧ leSL [] (frA 4 (hl l) xs) ys ∧ @nx y (hl l) ⟨K⟩)
      (okA 4 ((hl l).only (grpsOf xs)) xs ∧ leSL [] (frA 4 ((hl l).only (grpsOf xs)) xs) ys ∧ pureL ys = true ∧ @nx y (hl (killL 0 (grpsOf xs) l)) ⟨K⟩))) : @CallK P f xs (hl l) ⟨K⟩ := by
  cases hp : pureL xs <;> rw [hp] at hh
  · cases hy : y.flat <;> rw [hy] at hh
    · obtain ⟨h1, h2, h3, h4⟩ := hh
      exact acalls_frz 4 (grpsOf xs) (okA_mem h1) (acalls_le (leSL_le h2) (pc_call' h h3 h4))
    · obtain ⟨h1, h2, h3⟩ := hh
      exact pc_flat (pc_weak h (leSL_le h2)) 4 (okA_mem h1) rfl hy h3
  · obtain ⟨h1, h2, h3⟩ := hh
    exact acalls_le (leSL_le h1) (pc_call' h h2 h3)
theorem eK {K : AV → AHeap → Prop} (h : PC P f xs y) (hh : pureL xs = true ∧ @nx y H ⟨K⟩) : @CallK P f xs H ⟨K⟩ := pc_call' h hh.1 hh.2
theorem eQ {K : AV → Prop} (h : PC P f xs y) (hh : pureL xs = true ∧ @nq y ⟨K⟩) : @CallQ P f xs H ⟨K⟩ := ⟨y, pc_call' h hh.1 ⟨rfl, rfl⟩, hh.2⟩
theorem cQ {K : AV → Prop} (h : PC P f ys y) (hh : chB (pureL xs) (leSL [] xs ys ∧ pureL ys = true ∧ @nq y ⟨K⟩)
    (y.flat = true ∧ okA 4 (hl l) xs ∧ leSL [] (frA 4 (hl l) xs) ys ∧ @nq y ⟨K⟩)) : @CallQ P f xs (hl l) ⟨K⟩ := by
  cases hp : pureL xs <;> rw [hp] at hh
  · obtain ⟨hy, h1, h2, h3⟩ := hh
    exact ⟨y, pc_flat (pc_weak h (leSL_le h2)) 4 (okA_mem h1) rfl hy ⟨rfl, rfl⟩, h3⟩
  · obtain ⟨h1, h2, h3⟩ := hh
    exact ⟨y, acalls_le (leSL_le h1) (pc_call' h h2 ⟨rfl, rfl⟩), h3⟩
end
attribute [push_cast] okA_nil okA_cons frA_nil frA_cons chB_true chB_false AV.flat flatL
section
variable {d : Nat} {H : AHeap}
def okL (d : Nat) (H : AHeap) (xs : List AV) : Prop := ∀ y ∈ xs, frzOk d H y
def frL (d : Nat) (H : AHeap) (xs : List AV) : List AV := xs.map (frzV d H)
def okM (d : Nat) (H : AHeap) (xs : List AV) : Prop := okL d H xs
def frM (d : Nat) (H : AHeap) (xs : List AV) : List AV := frL d H xs
def ifB (b : Bool) (p : Prop) : Prop := b = true ∨ p
theorem ifB_true (p : Prop) : ifB true p = True := by simp [ifB]
theorem ifB_false (p : Prop) : ifB false p = p := by simp [ifB]
theorem okL_eq (xs : List AV) : okL d H xs = ifB (pureL xs) (okM d H xs) := propext ⟨fun h => .inr h, fun h => h.elim (fun h => (frzL_pure H d h).1) id⟩
theorem frL_eq (xs : List AV) : frL d H xs = bif pureL xs then xs else frM d H xs := by
  cases h : pureL xs
  · rfl
  · exact (frzL_pure H d h).2
theorem okM_nil : okM d H [] = True := by simp [okM, okL]
theorem okM_cons (x : AV) (xs : List AV) : okM d H (x :: xs) = (frzOk d H x ∧ okM d H xs) := by simp [okM, okL]
theorem frM_nil : frM d H [] = [] := rfl
theorem frM_cons (x : AV) (xs : List AV) : frM d H (x :: xs) = frzV d H x :: frM d H xs := rfl
theorem ok_ref (g v off len : Nat) : frzOk (d + 1) H (.ref g v off len) = ((H.at_ g).ver = v ∧ 0 < (H.at_ g).w ∧ off + len ≤ (H.at_ g).xs.length ∧ okL d H (((H.at_ g).xs.drop off).take len)) := rfl
theorem ok_ptr (g v i o : Nat) : frzOk (d + 1) H (.ptr g v i o) = ((H.at_ g).ver = v ∧ i < (H.at_ g).xs.length ∧ 0 < (H.at_ g).w ∧ o = 0 ∧ frzOk d H ((H.at_ g).xs.getD i .any)) := rfl
theorem ok_agg (cs : List AV) : frzOk (d + 1) H (.agg cs) = okL d H cs := rfl
theorem ok_tup (cs : List AV) : frzOk (d + 1) H (.tup cs) = okL d H cs := rfl
theorem ok_fn (f : Nat) (cs : List AV) : frzOk (d + 1) H (.fn f cs) = okL d H cs := rfl
theorem ok_any : frzOk (d + 1) H .any = True := eq_true rfl
theorem ok_bool (b : Bool) : frzOk (d + 1) H (.bool b) = True := eq_true rfl
theorem ok_int (k : IntKind) (n : Int) : frzOk (d + 1) H (.int k n) = True := eq_true rfl
theorem ok_str (s : List UInt8) : frzOk (d + 1) H (.str s) = True := eq_true rfl
theorem ok_nilS : frzOk (d + 1) H .nilS = True := eq_true rfl
theorem ok_nul : frzOk (d + 1) H .nul = True := eq_true rfl
theorem ok_emp : frzOk (d + 1) H .emp = True := eq_true rfl
theorem ok_nilP : frzOk (d + 1) H .nilP = True := eq_true rfl
theorem ok_nilF : frzOk (d + 1) H .nilF = True := eq_true rfl
theorem ok_yld (l : Nat) : frzOk (d + 1) H (.yld l) = True := eq_true rfl
theorem ok_full (w : Nat) (xs : List AV) : frzOk (d + 1) H (.full w xs) = (pureL xs = true) := rfl
theorem fr_full (w : Nat) (xs : List AV) : frzV (d + 1) H (.full w xs) = .full w xs := rfl
theorem ok_lst (w : Nat) (xs : List AV) : frzOk (d + 1) H (.lst w xs) = (pureL xs = true) := rfl
theorem ok_cptr (x : AV) : frzOk (d + 1) H (.cptr x) = (x.pure = true) := rfl
theorem fr_ref (g v off len : Nat) : frzV (d + 1) H (.ref g v off len) = .lst (H.at_ g).w (frL d H (((H.at_ g).xs.drop off).take len)) := rfl
theorem fr_ptr (g v i o : Nat) : frzV (d + 1) H (.ptr g v i o) = if o = 0 then .cptr (frzV d H ((H.at_ g).xs.getD i .any)) else .any := rfl
theorem fr_agg (cs : List AV) : frzV (d + 1) H (.agg cs) = .agg (frL d H cs) := rfl
theorem fr_tup (cs : List AV) : frzV (d + 1) H (.tup cs) = .tup (frL d H cs) := rfl
theorem fr_fn (f : Nat) (cs : List AV) : frzV (d + 1) H (.fn f cs) = .fn f (frL d H cs) := rfl
theorem fr_any : frzV (d + 1) H .any = .any := rfl
theorem fr_bool (b : Bool) : frzV (d + 1) H (.bool b) = .bool b := rfl
theorem fr_int (k : IntKind) (n : Int) : frzV (d + 1) H (.int k n) = .int k n := rfl
theorem fr_str (s : List UInt8) : frzV (d + 1) H (.str s) = .str s := rfl
theorem fr_nilS : frzV (d + 1) H .nilS = .nilS := rfl
theorem fr_nul : frzV (d + 1) H .nul = .nul := rfl
theorem fr_emp : frzV (d + 1) H .emp = .emp := rfl
theorem fr_nilP : frzV (d + 1) H .nilP = .nilP := rfl
theorem fr_nilF : frzV (d + 1) H .nilF = .nilF := rfl
theorem fr_yld (l : Nat) : frzV (d + 1) H (.yld l) = .yld l := rfl
theorem fr_lst (w : Nat) (xs : List AV) : frzV (d + 1) H (.lst w xs) = .lst w xs := rfl
theorem fr_cptr (x : AV) : frzV (d + 1) H (.cptr x) = .cptr x := rfl
end
attribute [push_cast] ifB_true ifB_false okL_eq frL_eq okM_nil okM_cons frM_nil frM_cons ok_ref ok_ptr ok_agg ok_tup ok_fn ok_any ok_bool ok_int ok_str ok_nilS ok_nul ok_emp ok_nilP ok_nilF ok_yld fr_yld ok_lst ok_full fr_full ok_cptr fr_ref fr_ptr fr_agg fr_tup fr_fn fr_any fr_bool fr_int fr_str fr_nilS fr_nul fr_emp fr_nilP fr_nilF fr_lst fr_cptr List.take_length
section
variable {P : Program} {l : List Grp} {xs cs : List AV} {K : AV → List Grp → Prop} {z : AV} {w len n : Nat}
theorem G_still {k : AK} (h : k.still = true) : @opG P k l xs ⟨K⟩ = (onRefs (· < l.length) xs ∧ @opK P k (hl l) xs ⟨fun x _ => K x l⟩) := by
  rw [opK_eq]
  have hn : ¬ k.still = false := by rw [h]; simp
  cases k <;> first | (exact propext ⟨fun hh => hh.elim (fun hh => ⟨hh.2.1, hh.2.2⟩) (fun hh => absurd hh.1 hn), fun hh => .inl ⟨h, hh.1, hh.2⟩⟩) | (simp [AK.still] at h)
theorem G_eff {k : AK} (h : k.still = false) (he : k.eff.isSome = true) : @opG P k l xs ⟨K⟩ = (k.appOk = true ∧ offOk k xs ∧ @opK P k (hl l) xs ⟨fun x H' => ∀ l', H' = hl l' → K x l'⟩) := by
  rw [opK_eq]
  have hn : ¬ k.still = true := by rw [h]; simp
  cases k <;> first | (exact propext ⟨fun hh => hh.elim (fun hh => absurd hh.1 hn) (fun hh => ⟨hh.2.2.1, hh.2.2.2⟩), fun hh => .inr ⟨h, he, hh.1, hh.2⟩⟩) | (simp [AK.eff] at he)
theorem G_mv  : @opG P .mv l xs ⟨K⟩ = (onRefs (· < l.length) xs ∧ @opK P .mv (hl l) xs ⟨fun x _ => K x l⟩) := G_still rfl
theorem G_pick  : @opG P .pick l xs ⟨K⟩ = (onRefs (· < l.length) xs ∧ @opK P .pick (hl l) xs ⟨fun x _ => K x l⟩) := G_still rfl
theorem G_build {zs : List AV} {pl : List (Nat × Nat)} {idx : List Nat} : @opG P (.build zs pl idx) l xs ⟨K⟩ = (onRefs (· < l.length) xs ∧ @opK P (.build zs pl idx) (hl l) xs ⟨fun x _ => K x l⟩) := G_still rfl
theorem G_load {a : Bool} {s : Nat} : @opG P (.load a s) l xs ⟨K⟩ = (onRefs (· < l.length) xs ∧ @opK P (.load a s) (hl l) xs ⟨fun x _ => K x l⟩) := G_still rfl
theorem G_nilCheck  : @opG P .nilCheck l xs ⟨K⟩ = (onRefs (· < l.length) xs ∧ @opK P .nilCheck (hl l) xs ⟨fun x _ => K x l⟩) := G_still rfl
theorem G_bin {op : BinOp} : @opG P (.bin op) l xs ⟨K⟩ = (onRefs (· < l.length) xs ∧ @opK P (.bin op) (hl l) xs ⟨fun x _ => K x l⟩) := G_still rfl
theorem G_eqb {n : Bool} : @opG P (.eqb n) l xs ⟨K⟩ = (onRefs (· < l.length) xs ∧ @opK P (.eqb n) (hl l) xs ⟨fun x _ => K x l⟩) := G_still rfl
theorem G_eqs {n : Bool} {ks : List Nat} : @opG P (.eqs n ks) l xs ⟨K⟩ = (onRefs (· < l.length) xs ∧ @opK P (.eqs n ks) (hl l) xs ⟨fun x _ => K x l⟩) := G_still rfl
theorem G_eqn {n : Bool} : @opG P (.eqn n) l xs ⟨K⟩ = (onRefs (· < l.length) xs ∧ @opK P (.eqn n) (hl l) xs ⟨fun x _ => K x l⟩) := G_still rfl
theorem G_un {op : UnOp} : @opG P (.un op) l xs ⟨K⟩ = (onRefs (· < l.length) xs ∧ @opK P (.un op) (hl l) xs ⟨fun x _ => K x l⟩) := G_still rfl
theorem G_conv {k : IntKind} : @opG P (.conv k) l xs ⟨K⟩ = (onRefs (· < l.length) xs ∧ @opK P (.conv k) (hl l) xs ⟨fun x _ => K x l⟩) := G_still rfl
theorem G_slice {w : Nat} {lo hi mx : Bool} : @opG P (.slice w lo hi mx) l xs ⟨K⟩ = (onRefs (· < l.length) xs ∧ @opK P (.slice w lo hi mx) (hl l) xs ⟨fun x _ => K x l⟩) := G_still rfl
theorem G_faddr {a : Bool} {o s : Nat} : @opG P (.faddr a o s) l xs ⟨K⟩ = (onRefs (· < l.length) xs ∧ @opK P (.faddr a o s) (hl l) xs ⟨fun x _ => K x l⟩) := G_still rfl
theorem G_field {a : Bool} {o s : Nat} : @opG P (.field a o s) l xs ⟨K⟩ = (onRefs (· < l.length) xs ∧ @opK P (.field a o s) (hl l) xs ⟨fun x _ => K x l⟩) := G_still rfl
theorem G_iaddr {w : Nat} : @opG P (.iaddr w) l xs ⟨K⟩ = (onRefs (· < l.length) xs ∧ @opK P (.iaddr w) (hl l) xs ⟨fun x _ => K x l⟩) := G_still rfl
theorem G_iaddrA {n w : Nat} {a : Bool} : @opG P (.iaddrA n w a) l xs ⟨K⟩ = (onRefs (· < l.length) xs ∧ @opK P (.iaddrA n w a) (hl l) xs ⟨fun x _ => K x l⟩) := G_still rfl
theorem G_index {n w : Nat} {a : Bool} : @opG P (.index n w a) l xs ⟨K⟩ = (onRefs (· < l.length) xs ∧ @opK P (.index n w a) (hl l) xs ⟨fun x _ => K x l⟩) := G_still rfl
theorem G_indexStr  : @opG P .indexStr l xs ⟨K⟩ = (onRefs (· < l.length) xs ∧ @opK P .indexStr (hl l) xs ⟨fun x _ => K x l⟩) := G_still rfl
theorem G_extract {i : Nat} : @opG P (.extract i) l xs ⟨K⟩ = (onRefs (· < l.length) xs ∧ @opK P (.extract i) (hl l) xs ⟨fun x _ => K x l⟩) := G_still rfl
theorem G_len {b : Bool} : @opG P (.len b) l xs ⟨K⟩ = (onRefs (· < l.length) xs ∧ @opK P (.len b) (hl l) xs ⟨fun x _ => K x l⟩) := G_still rfl
theorem G_max  : @opG P .max l xs ⟨K⟩ = (onRefs (· < l.length) xs ∧ @opK P .max (hl l) xs ⟨fun x _ => K x l⟩) := G_still rfl
theorem G_min  : @opG P .min l xs ⟨K⟩ = (onRefs (· < l.length) xs ∧ @opK P .min (hl l) xs ⟨fun x _ => K x l⟩) := G_still rfl
theorem G_mapGet : @opG P (.mapGet z) l xs ⟨K⟩ = (onRefs (· < l.length) xs ∧ @opK P (.mapGet z) (hl l) xs ⟨fun x _ => K x l⟩) := G_still rfl
theorem G_mkFunc {f : Nat} : @opG P (.mkFunc f) l xs ⟨K⟩ = (onRefs (· < l.length) xs ∧ @opK P (.mkFunc f) (hl l) xs ⟨fun x _ => K x l⟩) := G_still rfl
theorem G_toStr  : @opG P .toStr l xs ⟨K⟩ = (onRefs (· < l.length) xs ∧ @opK P .toStr (hl l) xs ⟨fun x _ => K x l⟩) := G_still rfl
theorem G_alloc  : @opG P (.alloc z w) l xs ⟨K⟩ = @opK P (.alloc z w) (hl l) xs ⟨fun x H' => ∀ l', H' = hl l' → K x l'⟩ := (G_eff rfl rfl).trans (by simp only [AK.appOk, offOk, true_and])
theorem G_box  : @opG P .box l xs ⟨K⟩ = @opK P .box (hl l) xs ⟨fun x H' => ∀ l', H' = hl l' → K x l'⟩ := (G_eff rfl rfl).trans (by simp only [AK.appOk, offOk, true_and])
theorem G_store  : @opG P (.store w) l xs ⟨K⟩ = @opK P (.store w) (hl l) xs ⟨fun x H' => ∀ l', H' = hl l' → K x l'⟩ := (G_eff rfl rfl).trans (by simp only [AK.appOk, offOk, true_and])
theorem G_mkSlice  : @opG P (.mkSlice w n z) l xs ⟨K⟩ = @opK P (.mkSlice w n z) (hl l) xs ⟨fun x H' => ∀ l', H' = hl l' → K x l'⟩ := (G_eff rfl rfl).trans (by simp only [AK.appOk, offOk, true_and])
theorem G_app : @opG P (.app w n z) l xs ⟨K⟩ = (0 < w ∧ offA xs ∧ @opK P (.app w n z) (hl l) xs ⟨fun x H' => ∀ l', H' = hl l' → K x l'⟩) := (G_eff rfl rfl).trans (by simp only [AK.appOk, offOk, decide_eq_true_eq])
theorem offA_ref {g v o n : Nat} : offA (.ref g v o n :: xs) = (o = 0) := rfl
theorem offA_nilS : offA (.nilS :: xs) = True := rfl
theorem offA_nul : offA (.nul :: xs) = True := rfl
theorem offA_emp : offA (.emp :: xs) = True := rfl
theorem offA_full {w : Nat} {ys : List AV} : offA (.full w ys :: xs) = True := rfl
theorem offA_lst {w : Nat} {ys : List AV} : offA (.lst w ys :: xs) = True := rfl
theorem G_call {f : Nat} : @opG P .call l (.fn f cs :: xs) ⟨K⟩ = @CallG P f (xs ++ cs) l ⟨K⟩ := (rfl)
theorem G_bsl {idx : List Nat} : @opG P (.bslice w len z idx) l xs ⟨K⟩ = (FitAll w len idx xs ∧ 0 < w ∧ pureL (setAll idx xs (List.replicate len z)) = true ∧ @nx (.full w (setAll idx xs (List.replicate len z))) (hl l) ⟨fun x _ => K x l⟩) := (rfl)
theorem hl_eq {l l' : List Grp} : (hl l = hl l') = (l = l') := propext ⟨hl_inj, fun h => h ▸ rfl⟩
theorem eG {f : Nat} {y : AV} (h : PC P f xs y) (hh : pureL xs = true ∧ @nx y (hl l) ⟨fun y _ => K y l⟩) : @CallG P f xs l ⟨K⟩ := ⟨y, fun H => pc_call' h hh.1 ⟨rfl, rfl⟩, hh.2⟩
theorem cG {f : Nat} {ys : List AV} {y : AV} (h : PC P f ys y) (hh : leSL [] xs ys ∧ pureL ys = true ∧ @nx y (hl l) ⟨fun y _ => K y l⟩) : @CallG P f xs l ⟨K⟩ := ⟨y, fun H => acalls_le (leSL_le hh.1) (pc_call' h hh.2.1 ⟨rfl, rfl⟩), hh.2.2⟩
end
theorem pc_w' {P : Program} {f m np : Nat} {xs : List AV} {y : AV} {res : List ARes} {B : AC} (hf : compFn P f xs.length = some ⟨m, np, res, B⟩) (h : W P m 0 B (entry xs) (hl []) (Ret P res fun z H => frzOk 4 H z ∧ ansW (frzV 4 H z) y)) : PC P f xs y := by
  refine pc_at hf 4 ?_
  rw [nil_hl]
  exact T.mono (W_T h) fun x env H hh => Ret_mono (fun z H hh => ⟨hh.1, leS_le hh.2⟩) hh
theorem pc_nil {P : Program} {f w : Nat} {y : AV} (h1 : PC P f [.nilS] y) (h2 : PC P f [.emp] y) : PC P f [.lst w []] y := by
  refine ⟨h1.1, fun S cargs hS hx => ?_⟩
  obtain ⟨v, r, rfl, ⟨_, _, a, cap, vs, rfl, ⟨_, hn⟩, _, _⟩, hr⟩ := hx
  cases a with
  | none => exact h1.2 S _ hS ⟨_, r, rfl, by rw [hn rfl]; rfl, hr⟩
  | some a => exact h2.2 S _ hS ⟨_, r, rfl, ⟨a, cap, rfl⟩, hr⟩
section
variable {P : Program} {H : AHeap} {K : AV → AHeap → Prop} {n : Bool} {b d : Nat} {ks : List Nat}
theorem K_eqn_emp : @opK P (.eqn n) H [.emp, .nilS] ⟨K⟩ = @nx (.bool n) H ⟨K⟩ := (rfl)
theorem K_len_emp : @opK P (.len false) H [.emp] ⟨K⟩ = @nx (.int .i64 0) H ⟨K⟩ := (rfl)
theorem rn_emp : rnV b H ks (d + 1) .emp = .emp := rfl
end
theorem LoopK_T {P : Program} {n b : Nat} {c : AC} {env : Env} {H : AHeap} {Q : Ex → Env → AHeap → Prop} (h : T P n b (.loop c) env H Q) : @LoopK ⟨T P n b (.loop c) env H Q⟩ := h
attribute [push_cast] K_eqn_emp K_len_emp rn_emp nil_hl hl_n hl_at hl_push hl_setQ setQ_zero setQ_succ groups_hl pos_nil pos_cons rn_map rnL_nil rnL_cons rn_ref rn_ptr rn_agg rn_tup rn_fn rn_any rn_bool rn_int rn_str rn_nilS rn_nul rn_nilP rn_nilF rn_yld rn_lst rn_cptr
attribute [push_cast] gl_nil gl_cons g_le live_nil live_cons allB_nil allB_cons diffr_nil diffr_cons srcOf_ref srcOf_ptr srcOf_nilS srcOf_map allPos_nil allPos_cons cellAt_ptr ks_nil ks_grp ks_virt mk_nil mk_cons head_hl head1 head2 head3 ro_nil ro_cons rn_nil rn_cons rn_grp kill_nil kill_cons virt_eq frzL_eq frzP_eq pureL_app only_if grpsOf List.cons_append List.nil_append
attribute [push_cast] offA_ref offA_nilS offA_nul offA_emp offA_full offA_lst G_mv G_pick G_build G_load G_nilCheck G_bin G_eqb G_eqs G_eqn G_un G_conv G_slice G_faddr G_field G_iaddr G_iaddrA G_index G_indexStr G_extract G_len G_max G_min G_mkFunc G_toStr G_alloc G_box G_store G_mkSlice G_app G_call G_bsl hl_eq onRefs forall_eq' forall_eq
attribute [push_cast] List.isEmpty_nil List.isEmpty_cons List.map_eq_nil_iff Option.isSome_some Option.isSome_none
attribute [push_cast] List.map_append List.length_append Option.map_some Option.map_none mem_nat mem_nil_nat Int.add_sub_cancel Int.sub_add_cancel toNat_pred toNat_succ toNat_add Nat.not_lt_zero Nat.zero_le
open IntWalk in
attribute [push_cast] i64_in i32_in u8_in u32_in u64_in getD_map'
theorem zz : type_of% (And.intro @z1 <| And.intro @z2 <| And.intro @z3 <| And.intro @z4 <| And.intro @z5 <| And.intro @z6 <| And.intro @z7 <| And.intro @z8 <| And.intro @z9 <| And.intro @z10 <| And.intro @z11 <| And.intro @z12 <| And.intro @z13 <| And.intro @z14 <| And.intro @z15 <| And.intro @z16 <| And.intro @z17 <| And.intro @z18 <| And.intro @z19 <| And.intro @z20 <| And.intro @z21 <| And.intro @z22 <| And.intro @z23 <| And.intro @z24 <| And.intro @z25 <| And.intro @z26 <| And.intro @z27 <| And.intro @z28 <| And.intro @z29 <| And.intro @z30 <| And.intro @z31 <| And.intro @z32 <| @z33) := And.intro @z1 <| And.intro @z2 <| And.intro @z3 <| And.intro @z4 <| And.intro @z5 <| And.intro @z6 <| And.intro @z7 <| And.intro @z8 <| And.intro @z9 <| And.intro @z10 <| And.intro @z11 <| And.intro @z12 <| And.intro @z13 <| And.intro @z14 <| And.intro @z15 <| And.intro @z16 <| And.intro @z17 <| And.intro @z18 <| And.intro @z19 <| And.intro @z20 <| And.intro @z21 <| And.intro @z22 <| And.intro @z23 <| And.intro @z24 <| And.intro @z25 <| And.intro @z26 <| And.intro @z27 <| And.intro @z28 <| And.intro @z29 <| And.intro @z30 <| And.intro @z31 <| And.intro @z32 <| @z33
end Go.Proofs.Yticodgjinajkpaa.Abs
set_option linter.unusedSimpArgs false
set_option linter.unusedVariables false
namespace Go.Proofs.Yticodgjinajkpaa
open Abs
structure Span where
  lo : Int
  hi : Int
  deriving DecidableEq, Inhabited
structure Part where
  at_ : Int
  drop : Int
  take : Int
  up : Int
  deriving DecidableEq, Inhabited
structure Term where
  base : Int
  drop : Int
  take : Int
  up : Int
  sum : Int
  parts : List Part
  deriving DecidableEq, Inhabited
structure Rule where
  from_ : Int
  to_ : Int
  guards : List (List Span)
  eat : Int
  out : List Term
  deriving DecidableEq, Inhabited
structure Final where
  from_ : Int
  guards : List (List Span)
  out : List Term
  deriving DecidableEq, Inhabited
structure Desc where
  in_ : Int
  out : Int
  states : Int
  start : Int
  rules : List Rule
  finals : List Final
  deriving DecidableEq, Inhabited
abbrev intsV (l : List Int) : AV := .lst 1 (l.map (AV.int .i64))
abbrev runesV (l : List Int) : AV := .lst 1 (l.map (AV.int .i32))
abbrev spanV (s : Span) : AV := .agg [.int .i64 s.lo, .int .i64 s.hi]
abbrev spansV (l : List Span) : AV := .lst 2 (l.map spanV)
abbrev guardsV (l : List (List Span)) : AV := .lst 1 (l.map spansV)
abbrev partV (p : Part) : AV := .agg [.int .i64 p.at_, .int .i64 p.drop, .int .i64 p.take, .int .i64 p.up]
abbrev partsV (l : List Part) : AV := .lst 4 (l.map partV)
abbrev termV (t : Term) : AV := .agg [.int .i64 t.base, .int .i64 t.drop, .int .i64 t.take, .int .i64 t.up, .int .i64 t.sum, partsV t.parts]
abbrev termsV (l : List Term) : AV := .lst 6 (l.map termV)
abbrev ruleV (r : Rule) : AV := .agg [.int .i64 r.from_, .int .i64 r.to_, guardsV r.guards, .int .i64 r.eat, termsV r.out]
abbrev finalV (f : Final) : AV := .agg [.int .i64 f.from_, guardsV f.guards, termsV f.out]
abbrev rulesV (l : List Rule) : AV := .lst 5 (l.map ruleV)
abbrev finalsV (l : List Final) : AV := .lst 3 (l.map finalV)
abbrev descV (d : Desc) : AV := .agg [.int .i64 d.in_, .int .i64 d.out, .int .i64 d.states, .int .i64 d.start, rulesV d.rules, finalsV d.finals]
theorem pure_spans (l : List Span) : pureL (l.map spanV) = true := pure_map (fun _ => rfl) l
theorem pure_parts (l : List Part) : pureL (l.map partV) = true := pure_map (fun _ => rfl) l
theorem pure_guards (l : List (List Span)) : pureL (l.map spansV) = true := pure_map (fun s => by simp only [spansV, AV.pure, pure_spans]) l
theorem pure_terms (l : List Term) : pureL (l.map termV) = true := pure_map (fun s => by simp [termV, AV.pure, pureL, pure_parts]) l
theorem pure_rules (l : List Rule) : pureL (l.map ruleV) = true := pure_map (fun s => by simp [ruleV, AV.pure, pureL, pure_guards, pure_terms]) l
theorem pure_finals (l : List Final) : pureL (l.map finalV) = true := pure_map (fun s => by simp [finalV, AV.pure, pureL, pure_guards, pure_terms]) l
theorem pure_words (l : List (List Int)) : pureL (l.map runesV) = true := pure_map (fun s => by simp only [runesV, AV.pure, pure_int]) l
attribute [push_cast] pure_spans pure_parts pure_guards pure_terms pure_rules pure_finals pure_words
end Go.Proofs.Yticodgjinajkpaa
set_option linter.unusedSimpArgs false
set_option linter.unusedVariables false
namespace Go.Proofs.Yticodgjinajkpaa.Abs
open Go.RowKit
inductive Sh where
  | bool
  | int (k : IntKind)
  | str
  | sl (agg : Bool) (fs : List Sh)
mutual
def Is : Sh → AV → Prop
  | .bool, x => ∃ b, x = .bool b
  | .int k, x => ∃ n, x = .int k n ∧ (Lit.int k n).wf = true
  | .str, x => ∃ s : List UInt8, x = .str s ∧ s.length ≤ maxLen
  | .sl agg fs, x => x = .nilS ∨ ∃ xs, x = .lst fs.length xs ∧ xs.length ≤ maxLen ∧ ∀ y ∈ xs, ∃ cs, y = (if agg then .agg cs else cs.headD .any) ∧ IsL fs cs
def IsL : List Sh → List AV → Prop
  | [], cs => cs = []
  | s :: fs, cs => ∃ c r, cs = c :: r ∧ Is s c ∧ IsL fs r
end
theorem IsL_len : ∀ {fs : List Sh} {cs : List AV}, IsL fs cs → cs.length = fs.length
  | [], _, h => by rw [show _ = [] from h]; rfl
  | _ :: _, _, ⟨_, _, h, _, k⟩ => by rw [h]; simp [IsL_len k]
mutual
def fitsC (P : Program) : Sh → TypeId → Bool
  | .bool, t => match P.underlying t with | some .bool => true | _ => false
  | .int k, t => match P.underlying t with | some (.int k') => k' == k | _ => false
  | .str, t => match P.underlying t with | some .string => true | _ => false
  | .sl agg fs, t => match P.underlying t with
    | some (.slice e) => P.cellsOf e == fs.length && !fs.isEmpty && (match agg, P.underlying e with
      | true, some (.struct fl) => fitsF P fs 0 fl.toList
      | true, some (.array n u) => fs.length == n && P.cellsOf u == 1 && fitsA P fs u
      | false, _ => fs.length == 1 && fitsA P fs e
      | _, _ => false)
    | _ => false
def fitsF (P : Program) : List Sh → Nat → List Field → Bool
  | [], _, [] => true
  | s :: ss, i, f :: fl => f.offset == i && P.cellsOf f.type == 1 && fitsC P s f.type && fitsF P ss (i + 1) fl
  | _, _, _ => false
def fitsA (P : Program) : List Sh → TypeId → Bool
  | [], _ => true
  | s :: ss, u => fitsC P s u && fitsA P ss u
end
section
variable {H : Type} {enc : TypeId × Value → H} {P : Program} {w : World} {base : Nat} {spare : Nat → Bool} {held : Bool}
def Got (w : World) (s : Sh) (v : Value) : Prop := ∃ x, Is s x ∧ VRel (MS.start w) x v ∧ x.pure = true ∧ x.one = true
def GotL (w : World) (fs : List Sh) (vs : List Value) : Prop := ∃ xs, IsL fs xs ∧ VsRel (MS.start w) xs vs ∧ pureL xs = true ∧ allOne xs = true
theorem gotL_nil : GotL w [] [] := ⟨[], rfl, rfl, rfl, rfl⟩
theorem gotL_cons {s : Sh} {fs : List Sh} {v : Value} {vs : List Value} (h : Got w s v) (k : GotL w fs vs) : GotL w (s :: fs) (v :: vs) := by
  obtain ⟨x, h1, h2, h3, h4⟩ := h
  obtain ⟨xs, k1, k2, k3, k4⟩ := k
  exact ⟨x :: xs, ⟨x, xs, rfl, h1, k1⟩, ⟨v, vs, rfl, h2, k2⟩, by simp [pureL, h3, k3], by simp [allOne, h4, k4]⟩
theorem start_block {a : Addr} {v : Value} (h : w.cell? a = some v) : (MS.start w).im a.block := cell_block h
theorem row_got {agg : Bool} {fs : List Sh} {a : Addr} {len cap sz : Nat} (hsz : sz = fs.length) (hpos : 0 < fs.length) (hagg : agg = false → fs.length = 1) (hlc : len ≤ cap) (hcap : cap ≤ maxLen)
    (h : ∀ i, i < len → ∃ cs', w.cells? base (a.add (i * sz)) sz = some cs' ∧ GotL w fs cs') : Got w (.sl agg fs) (.slice (some a) len cap) := by
  subst hsz
  have h' : ∀ i : Nat, ∃ p : List AV × List Value, i < len → (w.cells? base (a.add (i * fs.length)) fs.length = some p.2 ∧ IsL fs p.1 ∧ VsRel (MS.start w) p.1 p.2 ∧ pureL p.1 = true ∧ allOne p.1 = true) := by
    intro i
    by_cases hi : i < len
    · obtain ⟨cs', h1, xs, h2, h3, h4, h5⟩ := h i hi
      exact ⟨(xs, cs'), fun _ => ⟨h1, h2, h3, h4, h5⟩⟩
    · exact ⟨([], []), fun h => absurd h hi⟩
  obtain ⟨p, hp⟩ := Classical.axiomOfChoice h'
  let E : List AV → AV := fun cs => if agg then .agg cs else cs.headD .any
  let V : List Value → Value := fun cs => if agg then .agg cs.toArray else cs.headD undef
  let xs : List AV := (List.range len).map fun i => E (p i).1
  let vs : List Value := (List.range len).map fun i => V (p i).2
  have hone : ∀ i, i < len → (V (p i).2).cells.toList = (p i).2 ∧ VRel (MS.start w) (E (p i).1) (V (p i).2) ∧ (E (p i).1).pure = true := by
    intro i hi
    obtain ⟨q1, q2, q3, q4, q5⟩ := hp i hi
    have hl1 : (p i).1.length = fs.length := IsL_len q2
    cases agg with
    | true => exact ⟨by simp [V, Value.cells], ⟨_, rfl, q3⟩, by simp [E, AV.pure, q4]⟩
    | false =>
      have h1 := hagg rfl
      rw [h1] at hl1
      match hc : (p i).1, (p i).2, q3, q4, q5, hl1 with
      | [c], [v], ⟨v', r, hv, hr, hr2⟩, q4, q5, _ =>
        cases hv
        have hno : c.one = true := by simpa [allOne] using q5
        have hcc : c.cells = [c] := by cases c <;> first | rfl | (simp [AV.one] at hno)
        have hca : c.isAny = false := by cases c <;> first | rfl | (simp [AV.one] at hno)
        have hcl := VRel.cells hca hr
        rw [hcc] at hcl
        obtain ⟨u, r2, hu, hu2, hu3⟩ := hcl
        rw [show r2 = [] from hu3] at hu
        have hv1 : v.cells.toList = [v] := by
          have := one_cell hr hno
          cases v <;> first | rfl | (simp [Value.oneCell'] at this)
        exact ⟨by simpa [V] using hv1, by simpa [E, V] using hr, by simpa [E, pureL] using q4⟩
  have hxl : xs.length = len := by simp [xs]
  have hvl : vs.length = len := by simp [vs]
  have hxi : ∀ i, i < len → xs[i]? = some (E (p i).1) := fun i hi => by simp [xs, hi]
  have hvi : ∀ i, i < len → vs[i]? = some (V (p i).2) := fun i hi => by simp [vs, hi]
  have hvs : VsRel (MS.start w) xs vs := VsRel.of_get (by rw [hxl, hvl]) fun i x v hx hv => by
    have hi : i < len := by rw [← hxl]; exact (List.getElem?_eq_some_iff.1 hx).1
    rw [hxi i hi] at hx
    rw [hvi i hi] at hv
    cases hx; cases hv
    exact (hone i hi).2.1
  have hpu : pureL xs = true := pureL_mem.2 fun x hx => by
    obtain ⟨i, hi, rfl⟩ := List.mem_map.1 hx
    exact (hone i (List.mem_range.1 hi)).2.2
  refine ⟨.lst fs.length xs, .inr ⟨xs, rfl, by rw [hxl]; omega, fun y hy => ?_⟩, ⟨hpu, hpos, some a, cap, vs, by rw [hxl], ⟨by rw [hxl]; exact hlc, fun hn => by cases hn⟩, hvs, fun hne => ?_⟩, by simpa [AV.pure] using hpu, rfl⟩
  · obtain ⟨i, hi, rfl⟩ := List.mem_map.1 hy
    exact ⟨_, rfl, (hp i (List.mem_range.1 hi)).2.1⟩
  · have h0 : 0 < len := by rw [← hxl]; exact List.length_pos_iff.2 hne
    obtain ⟨b, o, spot⟩ := a
    have hcell : ∀ i, i < len → ∀ j, j < fs.length → w.cell? ((⟨b, o, spot⟩ : Addr).add (i * fs.length + j)) = (p i).2[j]? := fun i hi j hj => by
      obtain ⟨_, _, hat⟩ := World.cells?_some (hp i hi).1
      rw [← hat j hj, ← Go.Deep.add_add]
    have hlen2 : ∀ i, i < len → (p i).2.length = fs.length := fun i hi => (World.cells?_some (hp i hi).1).2.1
    have hc0 := hcell 0 h0 0 hpos
    rw [List.getElem?_eq_getElem (by rw [hlen2 0 h0]; exact hpos)] at hc0
    have hspot : spot = none := by simpa [Addr.add] using World.cell?_spot hc0
    subst hspot
    have hbk : ∀ k : Nat, ((⟨b, o, none⟩ : Addr).add k).block = b := fun k => by unfold Addr.add; split <;> rfl
    refine ⟨b, o, rfl, by have := start_block hc0; rwa [hbk] at this, fun i v hv => ?_⟩
    have hi : i < len := by rw [← hvl]; exact (List.getElem?_eq_some_iff.1 hv).1
    rw [hvi i hi] at hv
    cases hv
    obtain ⟨e1, _, _⟩ := hone i hi
    have e1' : (V (p i).2).cells = (p i).2.toArray := by simpa using congrArg List.toArray e1
    obtain ⟨_, q2, q3, _, q5⟩ := hp i hi
    refine ⟨by rw [e1']; simp [hlen2 i hi], fun c hc => ?_, fun j hj => ?_⟩
    · rw [e1'] at hc
      exact one_cells q3 q5 c (by simpa using hc)
    · rw [e1']
      have := hcell i hi j hj
      have ea : (⟨b, o, none⟩ : Addr).add (i * fs.length + j) = ⟨b, o + i * fs.length + j, none⟩ := by
        unfold Addr.add
        split
        · rename_i hz
          have : i * fs.length = 0 ∧ j = 0 := by simpa using hz
          rw [this.1, this.2]
          rfl
        · simp [Nat.add_assoc]
      rw [ea] at this
      refine this.trans ?_
      simp
theorem fitsF_len : ∀ {fs : List Sh} {i : Nat} {fl : List Field}, fitsF P fs i fl = true → fl.length = fs.length
  | [], _, [], _ => rfl
  | [], _, _ :: _, h => by simp [fitsF] at h
  | _ :: _, _, [], h => by simp [fitsF] at h
  | s :: fs, i, f :: fl, h => by
    simp only [fitsF, Bool.and_eq_true] at h
    simp [fitsF_len h.2]
mutual
theorem trodC : ∀ (s : Sh) {t : TypeId} {fuel : Nat} {v : Value} {d : DataW H × List MemPlace}, fitsC P s t = true → DataW.trod enc P w base spare held fuel t [v] = some d → Got w s v
  | .bool, t, fuel, v, d, hf, h => by
    cases fuel with
    | zero => simp [DataW.trod] at h
    | succ n =>
      simp only [fitsC] at hf
      split at hf
      · rename_i ht
        unfold DataW.trod at h
        rw [ht] at h
        cases v <;> simp at h
        rename_i b
        exact ⟨.bool b, ⟨b, rfl⟩, rfl, rfl, rfl⟩
      · cases hf
  | .int k, t, fuel, v, d, hf, h => by
    cases fuel with
    | zero => simp [DataW.trod] at h
    | succ n =>
      simp only [fitsC] at hf
      split at hf
      · rename_i k' ht
        obtain rfl : k' = k := by simpa using hf
        unfold DataW.trod at h
        rw [ht] at h
        cases v <;> simp at h
        rename_i k2 m
        obtain ⟨⟨rfl, hw⟩, _⟩ := h
        exact ⟨.int k2 m, ⟨m, rfl, hw⟩, rfl, rfl, rfl⟩
      · cases hf
  | .str, t, fuel, v, d, hf, h => by
    cases fuel with
    | zero => simp [DataW.trod] at h
    | succ n =>
      simp only [fitsC] at hf
      split at hf
      · rename_i ht
        unfold DataW.trod at h
        rw [ht] at h
        cases v <;> simp at h
        rename_i s
        exact ⟨.str s.data.toList, ⟨_, rfl, by simpa using h.1⟩, rfl, rfl, rfl⟩
      · cases hf
  | .sl agg fs, t, fuel, v, d, hf, h => by
    simp only [fitsC] at hf
    split at hf
    · rename_i e ht
      simp only [Bool.and_eq_true, beq_iff_eq, Bool.not_eq_true', List.isEmpty_eq_false_iff] at hf
      obtain ⟨⟨hsz, hne⟩, hfe⟩ := hf
      have hpos : 0 < fs.length := List.length_pos_iff.2 hne
      rcases Go.Deep.open_slice ht h with ⟨hv, _⟩ | ⟨a, len, cap, m, n, D, Pl, hv, hb, hl, hm, hmm, hx, hi⟩
      · cases hv
        exact ⟨.nilS, .inl rfl, rfl, rfl, rfl⟩
      · cases hv
        have hlm : len ≤ m := by rw [hmm]; split <;> omega
        have hag : agg = false → fs.length = 1 := fun ha => by
          subst ha
          simp only [Bool.and_eq_true, beq_iff_eq] at hfe
          exact hfe.1
        refine row_got (base := base) hsz hpos hag hl hm fun i hil => ?_
        obtain ⟨cs', hc, ht'⟩ := hi i (by omega)
        refine ⟨cs', hc, ?_⟩
        have hcl := (World.cells?_some hc).2.1
        cases agg with
        | true =>
          split at hfe
          · rename_i fl _ he
            obtain ⟨ys, n', _, _, _, hlen, hg⟩ := DataW.trod_struct he ht'
            have hfl := fitsF_len hfe
            exact trodF fs (fl := fl.toList) (i := 0) (cs := cs') hfe (by rw [hcl, hsz]; omega) fun j f hj => by
              have := hg j f (by simpa using hj)
              have hj2 : j < ys.length := by rw [hlen]; have := (List.getElem?_eq_some_iff.1 hj).1; simpa using this
              rw [List.getElem?_eq_getElem hj2] at this
              exact ⟨n', _, this, rfl⟩
          · rename_i n2 u _ he
            simp only [Bool.and_eq_true, beq_iff_eq] at hfe
            obtain ⟨⟨hn, hu⟩, hfa⟩ := hfe
            obtain ⟨ys, n', _, _, hlen, hyl, hg⟩ := DataW.trod_array he ht'
            refine trodA fs (u := u) (cs := cs') (i := 0) hfa (by omega) fun j hj => ?_
            have h1 := hg j (by omega)
            rw [hu, Nat.mul_one] at h1
            have h2 : ys[j]? = some (ys[j]'(by omega)) := List.getElem?_eq_getElem (by omega)
            rw [h2] at h1
            exact ⟨n', _, by rw [Nat.zero_add]; exact h1⟩
          · rename_i hh; cases hh
          · cases hfe
        | false =>
          simp only [Bool.and_eq_true, beq_iff_eq] at hfe
          refine trodA fs (u := e) (cs := cs') (i := 0) hfe.2 (by omega) fun j hj => ?_
          obtain rfl : j = 0 := by omega
          exact ⟨n, _, by rw [List.drop_zero, List.take_of_length_le (by omega)]; exact ht'⟩
    · cases hf
theorem trodF : ∀ (fs : List Sh) {fl : List Field} {i : Nat} {cs : List Value}, fitsF P fs i fl = true → cs.length = i + fs.length →
    (∀ (j : Nat) (f : Field), fl[j]? = some f → ∃ n y, DataW.trod enc P w base spare held n f.type ((cs.drop f.offset).take (P.cellsOf f.type)) = y ∧ y.isSome = true) → GotL w fs (cs.drop i)
  | [], fl, i, cs, hf, hl, h => by
    rw [List.drop_of_length_le (by rw [hl]; simp)]
    exact gotL_nil
  | s :: fs, fl, i, cs, hf, hl, h => by
    cases fl with
    | nil => simp [fitsF] at hf
    | cons f fl =>
      simp only [fitsF, Bool.and_eq_true, beq_iff_eq] at hf
      obtain ⟨⟨⟨ho, hc⟩, hs⟩, hr⟩ := hf
      have hi : i < cs.length := by rw [hl]; simp
      rw [List.drop_eq_getElem_cons hi]
      obtain ⟨n, y, h1, h2⟩ := h 0 f rfl
      obtain ⟨d, rfl⟩ := Option.isSome_iff_exists.1 h2
      rw [ho, hc, List.drop_eq_getElem_cons hi, List.take_succ_cons, List.take_zero] at h1
      refine gotL_cons (trodC s hs h1) (trodF fs hr (by rw [hl]; simp; omega) fun j g hj => h (j + 1) g (by simpa using hj))
theorem trodA : ∀ (fs : List Sh) {u : TypeId} {i : Nat} {cs : List Value}, fitsA P fs u = true → cs.length = i + fs.length →
    (∀ j, j < fs.length → ∃ n d, DataW.trod enc P w base spare held n u ((cs.drop (i + j)).take 1) = some d) → GotL w fs (cs.drop i)
  | [], u, i, cs, hf, hl, h => by
    rw [List.drop_of_length_le (by rw [hl]; simp)]
    exact gotL_nil
  | s :: fs, u, i, cs, hf, hl, h => by
    simp only [fitsA, Bool.and_eq_true] at hf
    have hi : i < cs.length := by rw [hl]; simp
    rw [List.drop_eq_getElem_cons hi]
    obtain ⟨n, d, h1⟩ := h 0 (by simp)
    rw [Nat.add_zero, List.drop_eq_getElem_cons hi, List.take_succ_cons, List.take_zero] at h1
    refine gotL_cons (trodC s hf.1 h1) (trodA fs hf.2 (by rw [hl]; simp; omega) fun j hj => ?_)
    have := h (j + 1) (by simp; omega)
    rwa [show i + (j + 1) = i + 1 + j by omega] at this
end
end
end Go.Proofs.Yticodgjinajkpaa.Abs
set_option linter.unusedSimpArgs false
set_option linter.unusedVariables false
namespace Go.Proofs.Yticodgjinajkpaa.Abs
open Go.RowKit Go.ChangeShapes Go.WideShapes
inductive PSh where
  | cell (s : Sh)
  | rcd (fs : List Sh)
def IsP : PSh → AV → Prop
  | .cell s, x => Is s x
  | .rcd fs, x => ∃ cs, x = .agg cs ∧ IsL fs cs
def IsPs : List PSh → List AV → Prop
  | [], xs => xs = []
  | p :: ps, xs => ∃ x r, xs = x :: r ∧ IsP p x ∧ IsPs ps r
def fitsP (P : Program) : PSh → TypeId → Bool
  | .cell s, t => fitsC P s t
  | .rcd fs, t => match P.underlying t with
    | some (.struct fl) => P.cellsOf t == fs.length && fitsF P fs 0 fl.toList
    | _ => false
def fitsPs (P : Program) : List PSh → List TypeId → Bool
  | [], [] => true
  | p :: ps, t :: ts => fitsP P p t && fitsPs P ps ts
  | _, _ => false
section
variable {H : Type} {enc : TypeId × Value → H} {P : Program} {w : World} {spare : Nat → Bool} {held : Bool}
theorem okWide_cell {s : Sh} {t : TypeId} {r : Reach} {b0 : Nat} {v : Value} (hf : fitsC P s t = true) (h : Value.okWide P w r b0 t v) : v.cells.toList = [v] := by
  cases s <;> simp only [fitsC] at hf <;> split at hf <;> first | (cases hf; done) | skip
  · obtain ⟨b, rfl⟩ := okWide_bool ‹_› h; rfl
  · obtain ⟨b, rfl⟩ := okWide_int ‹_› h; rfl
  · obtain ⟨b, rfl⟩ := okWide_string ‹_› h; rfl
  · obtain ⟨a, l, c, rfl⟩ := okWide_slice ‹_› h; rfl
theorem arg_got {p : PSh} {t : TypeId} {r : Reach} {b0 : Nat} {v : Value} {d : DataW H} {ps : List MemPlace} (hf : fitsP P p t = true) (hw : Value.okWide P w r b0 t v) (h : DataW.Trod enc P w 0 spare held t v d ps) : ∃ x, IsP p x ∧ VRel (MS.start w) x v := by
  obtain ⟨fuel, h⟩ := h
  cases p with
  | cell s =>
    rw [okWide_cell hf hw] at h
    obtain ⟨x, h1, h2, _⟩ := trodC s hf h
    exact ⟨x, h1, h2⟩
  | rcd fs =>
    simp only [fitsP] at hf
    split at hf
    · rename_i fl ht
      simp only [Bool.and_eq_true, beq_iff_eq] at hf
      obtain ⟨cs, rfl, hc⟩ := okWide_struct ht hw
      obtain ⟨ys, n', _, _, _, hlen, hg⟩ := DataW.trod_struct ht h
      have hfl := fitsF_len hf.2
      obtain ⟨xs, h1, h2, _⟩ := trodF fs (fl := fl.toList) (i := 0) (cs := cs.toList) hf.2 (by simp; omega) fun j f hj => by
        have := hg j f (by simpa using hj)
        have hj2 : j < ys.length := by rw [hlen]; have := (List.getElem?_eq_some_iff.1 hj).1; simpa using this
        rw [List.getElem?_eq_getElem hj2] at this
        exact ⟨n', _, this, rfl⟩
      exact ⟨.agg xs, ⟨xs, rfl, h1⟩, cs.toList, by simp, by simpa using h2⟩
    · cases hf
theorem args_got : ∀ {ps : List PSh} {ts : List TypeId} {vs : List Value} {ds : List (DataW H)} {q : List MemPlace} {r : Reach} {b0 : Nat}, fitsPs P ps ts = true → (∀ (j : Nat) t v, ts[j]? = some t → vs[j]? = some v → Value.okWide P w r b0 t v) →
    DataW.TrodAll enc P w 0 spare held ts vs ds q → ∃ xs, IsPs ps xs ∧ VsRel (MS.start w) xs vs
  | [], [], [], [], _, _, _, _, _, _ => ⟨[], rfl, rfl⟩
  | p :: ps, t :: ts, v :: vs, d :: ds, _, _, _, hf, hw, ⟨a, b, h1, h2, _⟩ => by
    simp only [fitsPs, Bool.and_eq_true] at hf
    obtain ⟨x, k1, k2⟩ := arg_got hf.1 (hw 0 t v rfl rfl) h1
    obtain ⟨xs, k3, k4⟩ := args_got hf.2 (fun j t v ht hv => hw (j + 1) t v (by simpa using ht) (by simpa using hv)) h2
    exact ⟨x :: xs, ⟨x, xs, rfl, k1, k3⟩, v, vs, rfl, k2, k4⟩
  | [], _ :: _, _, _, _, _, _, hf, _, _ => by simp [fitsPs] at hf
  | _ :: _, [], _, _, _, _, _, hf, _, _ => by simp [fitsPs] at hf
  | [], [], _ :: _, _, _, _, _, _, _, h => h.elim
  | [], [], [], _ :: _, _, _, _, _, _, h => h.elim
  | _ :: _, _ :: _, [], _, _, _, _, _, _, h => by cases ‹List (DataW H)› <;> exact h.elim
  | _ :: _, _ :: _, _ :: _, [], _, _, _, _, _, h => h.elim
def rowsOk (P : Program) (ts : List TypeId) : Bool := ts.all fun t => P.readableRec t && decide (t < P.types.size)
theorem args_stay {W W' : World} (hl : laidOutB P = true) (hb : Below W.heap.size W W') : ∀ {ts : List TypeId} {vs : List Value} {ds : List (DataW H)} {ps : List MemPlace}, rowsOk P ts = true → (∀ x ∈ ps, x.block < W.heap.size) →
    DataW.TrodAll enc P W 0 (fun _ => true) true ts vs ds ps → DataW.TrodAll enc P W' 0 (fun b => decide (b < W.heap.size)) true ts vs ds ps
  | [], [], [], _, _, _, h => h
  | t :: ts, v :: vs, d :: ds, _, hr, hlt, ⟨a, b, h1, h2, e⟩ => by
    subst e
    simp only [rowsOk, List.all_cons, Bool.and_eq_true, decide_eq_true_eq] at hr
    exact ⟨a, b, Below.trod hl hr.1.1 hr.1.2 h1 hb (fun x hx => hlt x (List.mem_append_left _ hx)), args_stay hl hb (by simpa [rowsOk] using hr.2) (fun x hx => hlt x (List.mem_append_right _ hx)) h2, rfl⟩
  | [], [], _ :: _, _, _, _, h => h.elim
  | [], _ :: _, _, _, _, _, h => by cases ‹List (DataW H)› <;> exact h.elim
  | _ :: _, [], _, _, _, _, h => by cases ‹List (DataW H)› <;> exact h.elim
  | _ :: _, _ :: _, [], _, _, _, h => h.elim
theorem law_calls {f : Nat} {ps : List PSh} {ts : List TypeId} (hf : fitsPs P ps ts = true) (h : ∀ xs, IsPs ps xs → PC P f xs (.bool true)) {args : Array Value} {ds : List (DataW H)} {q : List MemPlace} {r : Reach} {b0 : Nat}
    (hw : ∀ (j : Nat) t v, ts[j]? = some t → args.toList[j]? = some v → Value.okWide P w r b0 t v) (hA : DataW.TrodAll enc P w 0 spare held ts args.toList ds q) :
    Calls P f args w fun e w' => e = .returned (.bool true) ∧ Below w.heap.size w w' := by
  obtain ⟨xs, h1, h2⟩ := args_got hf hw hA
  have := (h xs h1).below h2
  simpa using this
end
end Go.Proofs.Yticodgjinajkpaa.Abs
