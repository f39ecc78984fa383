/-
  Calls that take data and give data: 'PC'. What is made in a call and never written again is data for the caller.
-/
import Derived.Test.YtdmjhlofphhldaaAbs13
set_option linter.unusedSimpArgs false
set_option linter.unusedVariables false
namespace Go.Proofs.Ytdmjhlofphhldaa.Abs

mutual
/-- Data that says nothing of memory. -/
def AV.flat : AV → Bool
  | .ref .. | .ptr .. | .map .. | .lst .. | .full .. | .cptr _ => false
  | .agg cs | .tup cs | .fn _ cs => flatL cs
  | .any | .bool _ | .int .. | .str _ | .nilS | .nul | .emp | .nilP | .nilF => true
def flatL : List AV → Bool
  | [] => true
  | x :: xs => x.flat && flatL xs
end

mutual
theorem VRel.of_flat {S S' : MS} : ∀ {x : AV} {v : Value}, x.flat = true → VRel S x v → VRel S' x v
  | .any, _, _, _ => trivial
  | .bool _, _, _, h => h
  | .int _ _, _, _, h => h
  | .str _, _, _, h => h
  | .nilS, _, _, h => h
  | .nul, _, _, h => h
  | .emp, _, _, h => h
  | .nilP, _, _, h => h
  | .nilF, _, _, h => h
  | .agg _, _, hf, h => let ⟨vs, hv, hr⟩ := h; ⟨vs, hv, VsRel.of_flat (by simpa [AV.flat] using hf) hr⟩
  | .tup _, _, hf, h => let ⟨vs, hv, hr⟩ := h; ⟨vs, hv, VsRel.of_flat (by simpa [AV.flat] using hf) hr⟩
  | .fn _ _, _, hf, h => let ⟨vs, hv, hr⟩ := h; ⟨vs, hv, VsRel.of_flat (by simpa [AV.flat] using hf) hr⟩
  | .ref .., _, hf, _ => by simp [AV.flat] at hf
  | .ptr .., _, hf, _ => by simp [AV.flat] at hf
  | .lst .., _, hf, _ => by simp [AV.flat] at hf
  | .full .., _, hf, _ => by simp [AV.flat] at hf
  | .map .., _, hf, _ => by simp [AV.flat] at hf
  | .cptr _, _, hf, _ => by simp [AV.flat] at hf
theorem VsRel.of_flat {S S' : MS} : ∀ {xs : List AV} {vs : List Value}, flatL xs = true → VsRel S xs vs → VsRel S' xs vs
  | [], _, _, h => h
  | x :: xs, vs, hf, h => by
    obtain ⟨v, r, hv, h1, h2⟩ := h
    simp only [flatL, Bool.and_eq_true] at hf
    exact ⟨v, r, hv, VRel.of_flat hf.1 h1, VsRel.of_flat hf.2 h2⟩
end

mutual
/-- Data that leads into no group is data in any state of the same memory. -/
theorem VRel.of_pure {S S' : MS} (hw : S'.w = S.w) (hi : ∀ b, S.im b → S'.im b) : ∀ {x : AV} {v : Value}, x.pure = true → VRel S x v → VRel S' x v
  | .any, _, _, _ => trivial
  | .bool _, _, _, h => h
  | .int _ _, _, _, h => h
  | .str _, _, _, h => h
  | .nilS, _, _, h => h
  | .nul, _, _, h => h
  | .emp, _, _, h => h
  | .nilP, _, _, h => h
  | .nilF, _, _, h => h
  | .agg _, _, hf, h => let ⟨vs, hv, hr⟩ := h; ⟨vs, hv, VsRel.of_pure hw hi (by simpa [AV.pure] using hf) hr⟩
  | .tup _, _, hf, h => let ⟨vs, hv, hr⟩ := h; ⟨vs, hv, VsRel.of_pure hw hi (by simpa [AV.pure] using hf) hr⟩
  | .fn _ _, _, hf, h => let ⟨vs, hv, hr⟩ := h; ⟨vs, hv, VsRel.of_pure hw hi (by simpa [AV.pure] using hf) hr⟩
  | .ref .., _, hf, _ => by simp [AV.pure] at hf
  | .ptr .., _, hf, _ => by simp [AV.pure] at hf
  | .map .., _, hf, _ => by simp [AV.pure] at hf
  | .lst wd xs, v, _, h => by
    obtain ⟨hp, h0, a, cap, vs, hv, hc, hl, hr⟩ := h
    exact ⟨hp, h0, a, cap, vs, hv, hc, VsRel.of_pure hw hi hp hl, fun hne => let ⟨b, o, ha, him, hrow⟩ := hr hne; ⟨b, o, ha, hi b him, by rw [hw]; exact hrow⟩⟩
  | .full wd xs, v, _, h => by
    obtain ⟨hp, h0, a, vs, hv, hc, hl, hr⟩ := h
    exact ⟨hp, h0, a, vs, hv, hc, VsRel.of_pure hw hi hp hl, fun hne => let ⟨b, o, ha, him, hrow⟩ := hr hne; ⟨b, o, ha, hi b him, by rw [hw]; exact hrow⟩⟩
  | .cptr x, v, _, h => by
    obtain ⟨hp, b, o, u, hv, him, hx, hl⟩ := h
    exact ⟨hp, b, o, u, hv, hi b him, VRel.of_pure hw hi hp hx, by rw [hw]; exact hl⟩
theorem VsRel.of_pure {S S' : MS} (hw : S'.w = S.w) (hi : ∀ b, S.im b → S'.im b) : ∀ {xs : List AV} {vs : List Value}, pureL xs = true → VsRel S xs vs → VsRel S' xs vs
  | [], _, _, h => h
  | x :: xs, vs, hf, h => by
    obtain ⟨v, r, hv, h1, h2⟩ := h
    simp only [pureL, Bool.and_eq_true] at hf
    exact ⟨v, r, hv, VRel.of_pure hw hi hf.1 h1, VsRel.of_pure hw hi hf.2 h2⟩
end

mutual
/-- Where there are no groups all data is pure. -/
theorem VRel.lift {S S' : MS} (h0 : S.n = 0) (hw : S'.w = S.w) (hi : ∀ b, S.im b → S'.im b) : ∀ {x : AV} {v : Value}, VRel S x v → VRel S' x v
  | .any, _, _ => trivial
  | .bool _, _, h => h
  | .int _ _, _, h => h
  | .str _, _, h => h
  | .nilS, _, h => h
  | .nul, _, h => h
  | .emp, _, h => h
  | .nilP, _, h => h
  | .nilF, _, h => h
  | .agg _, _, h => let ⟨vs, hv, hr⟩ := h; ⟨vs, hv, VsRel.lift h0 hw hi hr⟩
  | .tup _, _, h => let ⟨vs, hv, hr⟩ := h; ⟨vs, hv, VsRel.lift h0 hw hi hr⟩
  | .fn _ _, _, h => let ⟨vs, hv, hr⟩ := h; ⟨vs, hv, VsRel.lift h0 hw hi hr⟩
  | .ref .., _, h => by obtain ⟨_, hg, _⟩ := h; omega
  | .ptr .., _, h => by obtain ⟨_, hg, _⟩ := h; omega
  | .map .., _, h => by obtain ⟨_, hg, _⟩ := h; omega
  | .lst wd xs, v, h => by
    obtain ⟨hp, hz, a, cap, vs, hv, hc, hl, hr⟩ := h
    exact ⟨hp, hz, a, cap, vs, hv, hc, VsRel.lift h0 hw hi hl, fun hne => let ⟨b, o, ha, him, hrow⟩ := hr hne; ⟨b, o, ha, hi b him, by rw [hw]; exact hrow⟩⟩
  | .full wd xs, v, h => by
    obtain ⟨hp, hz, a, vs, hv, hc, hl, hr⟩ := h
    exact ⟨hp, hz, a, vs, hv, hc, VsRel.lift h0 hw hi hl, fun hne => let ⟨b, o, ha, him, hrow⟩ := hr hne; ⟨b, o, ha, hi b him, by rw [hw]; exact hrow⟩⟩
  | .cptr x, v, h => by
    obtain ⟨hp, b, o, u, hv, him, hx, hl⟩ := h
    exact ⟨hp, b, o, u, hv, hi b him, VRel.lift h0 hw hi hx, by rw [hw]; exact hl⟩
theorem VsRel.lift {S S' : MS} (h0 : S.n = 0) (hw : S'.w = S.w) (hi : ∀ b, S.im b → S'.im b) : ∀ {xs : List AV} {vs : List Value}, VsRel S xs vs → VsRel S' xs vs
  | [], _, h => h
  | x :: xs, vs, h => by
    obtain ⟨v, r, hv, h1, h2⟩ := h
    exact ⟨v, r, hv, VRel.lift h0 hw hi h1, VsRel.lift h0 hw hi h2⟩
end

/-! ### What was made is looked at as data -/
/-- x, in which each slice into a group is the data that stands there. -/
def frzV : Nat → AHeap → AV → AV
  | d + 1, H, .ref g _ off len => .lst (H.at_ g).w ((((H.at_ g).xs.drop off).take len).map (frzV d H))
  | d + 1, H, .ptr g _ i o => if o = 0 then .cptr (frzV d H ((H.at_ g).xs.getD i .any)) else .any
  | d + 1, H, .agg cs => .agg (cs.map (frzV d H))
  | d + 1, H, .tup cs => .tup (cs.map (frzV d H))
  | d + 1, H, .fn f cs => .fn f (cs.map (frzV d H))
  | _, _, x => x
/-- .. and when that may be done. -/
def frzOk : Nat → AHeap → AV → Prop
  | d + 1, H, .ref g v off len => (H.at_ g).ver = v ∧ 0 < (H.at_ g).w ∧ off + len ≤ (H.at_ g).xs.length ∧ ∀ y ∈ ((H.at_ g).xs.drop off).take len, frzOk d H y
  | d + 1, H, .ptr g v i o => (H.at_ g).ver = v ∧ i < (H.at_ g).xs.length ∧ 0 < (H.at_ g).w ∧ o = 0 ∧ frzOk d H ((H.at_ g).xs.getD i .any)
  | d + 1, H, .agg cs => ∀ y ∈ cs, frzOk d H y
  | d + 1, H, .tup cs => ∀ y ∈ cs, frzOk d H y
  | d + 1, H, .fn _ cs => ∀ y ∈ cs, frzOk d H y
  | _, _, x => x.pure = true

theorem pureL_mem : ∀ {xs : List AV}, pureL xs = true ↔ ∀ x ∈ xs, x.pure = true
  | [] => by simp [pureL]
  | x :: xs => by simp [pureL, pureL_mem]

theorem frz_pure (H : AHeap) : ∀ (d : Nat) {x : AV}, x.pure = true → frzOk d H x ∧ frzV d H x = x
  | 0, x, h => by cases x <;> exact ⟨h, rfl⟩
  | d + 1, x, h => by
    have key : ∀ cs : List AV, pureL cs = true → (∀ y ∈ cs, frzOk d H y) ∧ cs.map (frzV d H) = cs := fun cs hc => by
      refine ⟨fun y hy => (frz_pure H d (pureL_mem.1 hc y hy)).1, ?_⟩
      have : cs.map (frzV d H) = cs.map id := List.map_congr_left fun y hy => (frz_pure H d (pureL_mem.1 hc y hy)).2
      simpa using this
    cases x with
    | ref => simp [AV.pure] at h
    | ptr => simp [AV.pure] at h
    | map => simp [AV.pure] at h
    | agg cs => obtain ⟨k1, k2⟩ := key cs (by simpa [AV.pure] using h); exact ⟨k1, by simp only [frzV, k2]⟩
    | tup cs => obtain ⟨k1, k2⟩ := key cs (by simpa [AV.pure] using h); exact ⟨k1, by simp only [frzV, k2]⟩
    | fn f cs => obtain ⟨k1, k2⟩ := key cs (by simpa [AV.pure] using h); exact ⟨k1, by simp only [frzV, k2]⟩
    | _ => exact ⟨h, rfl⟩

theorem frzL_pure (H : AHeap) (d : Nat) {xs : List AV} (h : pureL xs = true) : (∀ y ∈ xs, frzOk d H y) ∧ xs.map (frzV d H) = xs := by
  refine ⟨fun y hy => (frz_pure H d (pureL_mem.1 h y hy)).1, ?_⟩
  have : xs.map (frzV d H) = xs.map id := List.map_congr_left fun y hy => (frz_pure H d (pureL_mem.1 h y hy)).2
  simpa using this

/-- All groups are looked at as data. -/
def MS.shut (S : MS) (H : AHeap) : MS := { S with n := 0, im := fun b => S.im b ∨ ∃ g, g < H.n ∧ 0 < (H.at_ g).w ∧ 0 < S.cap g ∧ b = S.place g, keep := fun b => S.keep b ∨ ∃ g, g < H.n ∧ (H.at_ g).w = 0 ∧ (H.at_ g).exact = true ∧ b = S.place g }

theorem shut_rel {S : MS} {H : AHeap} (h : SRel S H) : SRel (S.shut H) AHeap.nil where
  n := rfl
  grp g hg := absurd hg (Nat.not_lt_zero _)
  apart g _ hg := absurd hg (Nat.not_lt_zero _)
  im b hb := by
    rcases hb with (hb | ⟨g, hg, hw, hc, rfl⟩) | (hb | ⟨g, hg, hw, he, rfl⟩)
    · exact h.im b (.inl hb)
    · exact (h.grp g hg).lt hw hc
    · exact h.im b (.inr hb)
    · exact (h.grp g hg).mlt hw he

theorem shut_evo {S0 S : MS} {H : AHeap} (e : Evo S0 S) (h0 : S0.n = 0) (h : SRel S H) : Evo S0 (S.shut H) where
  base := e.base
  os := e.os
  tape := e.tape
  output := e.output
  size := e.size
  kept := e.kept
  im b hb := .inl (e.im b hb)
  keep b hb := .inl (e.keep b hb)
  fresh b hb := by
    rcases hb with hb | ⟨g, hg, hw, hc, rfl⟩
    · exact e.fresh b hb
    · exact .inr fun hk => ((h.grp g hg).live hw hc).2 (.inr (e.keep _ hk))
  n := by rw [h0]; exact Nat.le_refl _
  cur g hg := by omega
  same g hg := by omega

theorem frz_ok {S : MS} {H : AHeap} (h : SRel S H) : ∀ (d : Nat) {x : AV} {v : Value}, frzOk d H x → VRel S x v → VRel (S.shut H) (frzV d H x) v ∧ (frzV d H x).pure = true
  | 0, x, v, hf, hv => by
    have hp : x.pure = true := by cases x <;> exact hf
    have he : frzV 0 H x = x := by cases x <;> rfl
    rw [he]
    exact ⟨VRel.of_pure (S := S) (S' := S.shut H) rfl (fun _ hb => .inl hb) hp hv, hp⟩
  | d + 1, x, v, hf, hv => by
    have keyL : ∀ {cs : List AV} {vs : List Value}, (∀ y ∈ cs, frzOk d H y) → VsRel S cs vs → VsRel (S.shut H) (cs.map (frzV d H)) vs ∧ pureL (cs.map (frzV d H)) = true := by
      intro cs
      induction cs with
      | nil => intro vs _ hh; exact ⟨hh, rfl⟩
      | cons c cs ih =>
        intro vs hc hh
        obtain ⟨u, r, rfl, h1, h2⟩ := hh
        obtain ⟨k1, k2⟩ := frz_ok h d (hc c (by simp)) h1
        obtain ⟨k3, k4⟩ := ih (fun y hy => hc y (by simp [hy])) h2
        exact ⟨⟨u, r, rfl, k1, k3⟩, by simp [pureL, k2, k4]⟩
    cases x with
    | ref g vn off len =>
      obtain ⟨h1, h2, h3, h4⟩ := hf
      obtain ⟨_, hg, hc, hp⟩ := hv
      have hG := h.live_of hg
      obtain ⟨a, cap', rfl, hcase⟩ := hp (by rw [hG.ver, h1])
      have hl : ((((H.at_ g).xs.drop off).take len).map (frzV d H)).length = len := by simp; omega
      have hnone : a = none → cap' = 0 := fun hn => by
        rcases hcase with ⟨rfl, _⟩ | ⟨_, hh, _⟩
        · cases hn
        · exact hh
      by_cases hc0 : S.cap g = 0
      · have hlen := hG.len h2
        have hnil : ((H.at_ g).xs.drop off).take len = [] := List.eq_nil_of_length_eq_zero (by simp; omega)
        simp only [frzV, hnil, List.map_nil] at hl ⊢
        exact ⟨⟨rfl, h2, a, cap', [], by rw [← hl], ⟨Nat.zero_le _, hnone⟩, rfl, fun hne => absurd rfl hne⟩, rfl⟩
      obtain ⟨⟨cells, TT, us, hb, hcs, hus, hfl⟩, _⟩ := hG.live h2 (by omega)
      obtain ⟨k1, k2⟩ := keyL h4 ((hus.drop off).take len)
      refine ⟨⟨k2, h2, a, cap', _, by rw [hl], ⟨?_, hnone⟩, k1, fun hne => ?_⟩, k2⟩
      · rw [hl]; rcases hcase with ⟨_, c2, c3⟩ | ⟨c1, c2, _⟩ <;> omega
      · rcases hcase with ⟨rfl, _, _⟩ | ⟨c1, _, _⟩
        · refine ⟨_, _, rfl, .inr ⟨g, by rw [← h.n]; exact hg, h2, by omega, rfl⟩, fun j u hu => ?_⟩
          rw [List.getElem?_take] at hu
          split at hu
          · rw [List.getElem?_drop] at hu
            have := hfl.row hb (off + j) u hu
            rw [Nat.zero_add, Nat.add_mul] at this
            rw [hG.wid]
            exact this
          · cases hu
        · exact absurd (List.eq_nil_of_length_eq_zero (by rw [hl]; exact c1)) hne
    | ptr g vn i o =>
      obtain ⟨h1, h2, h3, h4, h5⟩ := hf
      subst h4
      obtain ⟨_, hg, hc, hp⟩ := hv
      have hG := h.live_of hg
      obtain rfl : v = _ := hp (by rw [hG.ver, h1])
      obtain ⟨u, hu, hl⟩ := hG.elem h3 h2
      obtain ⟨k1, k2⟩ := frz_ok h d h5 hu
      refine ⟨?_, ?_⟩
      · simp only [frzV, if_true]
        refine ⟨k2, S.place g, i * (H.at_ g).w, u, ?_, .inr ⟨g, by rw [← h.n]; exact hg, h3, by have := hG.len h3; omega, rfl⟩, k1, ?_⟩
        · rw [hG.wid]; rfl
        · rw [hl.1]; exact hl
      · simp only [frzV, if_true, AV.pure]; exact k2
    | agg cs => obtain ⟨vs, rfl, hr⟩ := hv; obtain ⟨k1, k2⟩ := keyL hf hr; exact ⟨⟨vs, rfl, k1⟩, by simpa [frzV, AV.pure] using k2⟩
    | tup cs => obtain ⟨vs, rfl, hr⟩ := hv; obtain ⟨k1, k2⟩ := keyL hf hr; exact ⟨⟨vs, rfl, k1⟩, by simpa [frzV, AV.pure] using k2⟩
    | fn f cs => obtain ⟨vs, rfl, hr⟩ := hv; obtain ⟨k1, k2⟩ := keyL hf hr; exact ⟨⟨vs, rfl, k1⟩, by simpa [frzV, AV.pure] using k2⟩
    | any => exact ⟨trivial, rfl⟩
    | bool b => exact ⟨hv, rfl⟩
    | int k n => exact ⟨hv, rfl⟩
    | str s => exact ⟨hv, rfl⟩
    | nilS => exact ⟨hv, rfl⟩
    | nul => exact ⟨hv, rfl⟩
    | emp => exact ⟨hv, rfl⟩
    | nilP => exact ⟨hv, rfl⟩
    | nilF => exact ⟨hv, rfl⟩
    | full w xs => exact ⟨VRel.of_pure (S := S) (S' := S.shut H) rfl (fun _ hb => .inl hb) hf hv, hf⟩
    | map g v => simp [frzOk, AV.pure] at hf
    | lst w xs => exact ⟨VRel.of_pure (S := S) (S' := S.shut H) rfl (fun _ hb => .inl hb) hf hv, hf⟩
    | cptr x => exact ⟨VRel.of_pure (S := S) (S' := S.shut H) rfl (fun _ hb => .inl hb) hf hv, hf⟩

theorem frzL_ok {S : MS} {H : AHeap} (h : SRel S H) (d : Nat) : ∀ {xs : List AV} {vs : List Value}, (∀ y ∈ xs, frzOk d H y) → VsRel S xs vs → VsRel (S.shut H) (xs.map (frzV d H)) vs
  | [], _, _, hh => hh
  | x :: xs, vs, hc, hh => by
    obtain ⟨u, r, rfl, h1, h2⟩ := hh
    exact ⟨u, r, rfl, (frz_ok h d (hc x (by simp)) h1).1, frzL_ok h d (fun y hy => hc y (by simp [hy])) h2⟩

/-! ### Pure calls -/
/-- Called with data xs the function gives the data y. -/
def PC (P : Program) (f : Nat) (xs : List AV) (y : AV) : Prop := ACalls P f xs AHeap.nil fun z H => z = y ∧ H = AHeap.nil

section
variable {P : Program} {H : AHeap}

/-- What means x means y too. -/
def AV.le (x y : AV) : Prop := ∀ (S : MS) (v : Value), VRel S x v → VRel S y v
def leL (xs ys : List AV) : Prop := ∀ (S : MS) (vs : List Value), VsRel S xs vs → VsRel S ys vs
theorem AV.le_refl (x : AV) : AV.le x x := fun _ _ h => h
theorem AV.le_of_eq {x y : AV} (h : x = y) : AV.le x y := h ▸ AV.le_refl x
theorem AV.le_trans {x y z : AV} (h : AV.le x y) (k : AV.le y z) : AV.le x z := fun S v hv => k S v (h S v hv)
theorem leL_refl (xs : List AV) : leL xs xs := fun _ _ h => h
theorem leL_nil : leL [] [] := fun _ _ h => h
theorem leL_cons {x y : AV} {xs ys : List AV} (h : AV.le x y) (k : leL xs ys) : leL (x :: xs) (y :: ys) := fun S _ ⟨v, r, hv, h1, h2⟩ => ⟨v, r, hv, h S v h1, k S r h2⟩
theorem AV.le_nilS {w : Nat} (hw : 0 < w) : AV.le .nilS (.lst w []) := fun _ v h => ⟨rfl, hw, none, 0, [], h, ⟨Nat.le_refl 0, fun _ => rfl⟩, rfl, fun hn => absurd rfl hn⟩
theorem AV.le_nul {w : Nat} (hw : 0 < w) : AV.le .nul (.lst w []) := fun _ v ⟨a, h⟩ => ⟨rfl, hw, a, 0, [], h, ⟨Nat.le_refl 0, fun _ => rfl⟩, rfl, fun hn => absurd rfl hn⟩
theorem AV.le_emp {w : Nat} (hw : 0 < w) : AV.le .emp (.lst w []) := fun _ v ⟨a, cap, h⟩ => ⟨rfl, hw, some a, cap, [], h, ⟨Nat.zero_le _, fun hn => by cases hn⟩, rfl, fun hn => absurd rfl hn⟩
theorem AV.le_nilS_nul : AV.le .nilS .nul := fun _ v h => ⟨none, h⟩
theorem AV.le_agg {xs ys : List AV} (h : leL xs ys) : AV.le (.agg xs) (.agg ys) := fun S _ ⟨vs, hv, k⟩ => ⟨vs, hv, h S vs k⟩
theorem AV.le_tup {xs ys : List AV} (h : leL xs ys) : AV.le (.tup xs) (.tup ys) := fun S _ ⟨vs, hv, k⟩ => ⟨vs, hv, h S vs k⟩
theorem AV.le_fn {f : Nat} {xs ys : List AV} (h : leL xs ys) : AV.le (.fn f xs) (.fn f ys) := fun S _ ⟨vs, hv, k⟩ => ⟨vs, hv, h S vs k⟩
theorem leL_len {xs ys : List AV} (hl : xs.length = ys.length) (h : ∀ (i : Nat) (x y : AV), xs[i]? = some x → ys[i]? = some y → AV.le x y) : leL xs ys := fun S vs hv =>
  VsRel.of_get (by rw [hv.length, hl]) fun i y v hy hu => by
    have hi : i < xs.length := by rw [hl]; exact (List.getElem?_eq_some_iff.1 hy).1
    obtain ⟨v', h1, h2⟩ := hv.get (List.getElem?_eq_getElem hi)
    rw [hu] at h1; cases h1
    exact h i _ _ (List.getElem?_eq_getElem hi) hy S v h2
theorem AV.le_lst {w : Nat} {xs ys : List AV} (hl : xs.length = ys.length) (hp : pureL ys = true) (h : leL xs ys) : AV.le (.lst w xs) (.lst w ys) := fun S v ⟨_, hw, a, cap, vs, hv, hc, hx, hr⟩ =>
  ⟨hp, hw, a, cap, vs, by rw [← hl]; exact hv, by rw [← hl]; exact hc, h S vs hx, fun hn => hr (fun hh => hn (List.eq_nil_of_length_eq_zero (by rw [← hl, hh]; rfl)))⟩
theorem acalls_le {f : Nat} {xs ys : List AV} {K : AV → AHeap → Prop} (h : leL xs ys) (k : ACalls P f ys H K) : ACalls P f xs H K := ⟨k.1, fun S cargs hS hx => k.2 S cargs hS (h S cargs hx)⟩

theorem pc_le {f : Nat} {xs : List AV} {y : AV} (d : Nat) (h : ACalls P f xs AHeap.nil fun z H => frzOk d H z ∧ AV.le (frzV d H z) y) : PC P f xs y := by
  refine ⟨h.1, fun S cargs hS hx => (h.2 S cargs hS hx).mono fun e w' hh => ?_⟩
  obtain ⟨v, S', x, H', rfl, rfl, ev, hS', hv, h1, h2⟩ := hh
  obtain ⟨k1, _⟩ := frz_ok hS' d h1 hv
  exact ⟨v, S'.shut H', y, AHeap.nil, rfl, rfl, shut_evo ev hS.n hS', shut_rel hS', h2 _ _ k1, rfl, rfl⟩

theorem pc_of {f : Nat} {xs : List AV} {y : AV} (d : Nat) (h : ACalls P f xs AHeap.nil fun z H => frzOk d H z ∧ frzV d H z = y) : PC P f xs y := by
  refine ⟨h.1, fun S cargs hS hx => (h.2 S cargs hS hx).mono fun e w' hh => ?_⟩
  obtain ⟨v, S', x, H', rfl, rfl, ev, hS', hv, h1, h2⟩ := hh
  obtain ⟨k1, _⟩ := frz_ok hS' d h1 hv
  rw [h2] at k1
  exact ⟨v, S'.shut H', y, AHeap.nil, rfl, rfl, shut_evo ev hS.n hS', shut_rel hS', k1, rfl, rfl⟩

/-- A PURE CALL, wherever it stands. -/
theorem pc_call {f : Nat} {xs ys : List AV} {y : AV} (h : PC P f ys y) (d : Nat) (hok : ∀ x ∈ xs, frzOk d H x) (hys : xs.map (frzV d H) = ys) (hy : y.flat = true ∨ pureL xs = true) : ACalls P f xs H fun z H' => z = y ∧ H' = H := by
  refine ⟨h.1, fun S cargs hS hx => ?_⟩
  by_cases hp : pureL xs = true
  · have hys' : ys = xs := by rw [← hys]; exact (frzL_pure H d hp).2
    subst hys'
    let S1 : MS := { S with n := 0, keep := fun b => S.keep b ∨ ∃ g, g < H.n ∧ (H.at_ g).has (S.cap g) ∧ b = S.place g }
    have hS1 : SRel S1 AHeap.nil := by
      refine ⟨rfl, fun g hg => absurd hg (Nat.not_lt_zero _), fun g _ hg => absurd hg (Nat.not_lt_zero _), fun b hb => ?_⟩
      rcases hb with hb | hb | ⟨g, hg, hh, rfl⟩
      · exact hS.im b (.inl hb)
      · exact hS.im b (.inr hb)
      · exact (hS.grp g hg).has_lt hh
    refine (h.2 S1 cargs hS1 (VsRel.of_pure (S := S) (S' := S1) rfl (fun _ hb => hb) hp hx)).mono fun e w' hh => ?_
    obtain ⟨v, S2, x, H', rfl, rfl, ev, hS2, hv, rfl, rfl⟩ := hh
    let S' : MS := { S with w := S2.w, im := S2.im }
    have ev' : Evo S S' := by
      refine ⟨rfl, ev.os, ev.tape, ev.output, ev.size, fun b hb => ev.kept b (hb.imp id .inl), ev.im, fun _ hb => hb, fun b hb => ?_, Nat.le_refl _, fun _ _ => Nat.le_refl _, fun _ _ _ => ⟨rfl, rfl, rfl⟩⟩
      exact (ev.fresh b hb).imp id (fun hn hk => hn (.inl hk))
    refine ⟨v, S', x, H, rfl, rfl, ev', ?_, VRel.lift (S := S2) (S' := S') hS2.n rfl (fun _ hb => hb) hv, rfl, rfl⟩
    refine ⟨hS.n, fun g hg => ?_, hS.apart, fun b hb => ?_⟩
    · refine (hS.grp g hg).mono' ev' (by rw [hS.n]; exact hg) rfl (fun hq => ev.kept _ (.inr (.inr ⟨g, hg, hq, rfl⟩))) (fun hq hh => ?_)
      have hni := (hS.grp g hg).has_ni hq
      rcases hh with hh | hh
      · rcases ev.fresh _ hh with h1 | h1
        · exact hni (.inl h1)
        · exact h1 (.inr ⟨g, hg, hq, rfl⟩)
      · exact hni (.inr hh)
    · rcases hb with hb | hb
      · exact hS2.im b (.inl hb)
      · have h1 := hS.im b (.inr hb)
        have h2 : S.w.heap.size ≤ S2.w.heap.size := ev.size
        exact Nat.lt_of_lt_of_le h1 h2
  · have hfl : y.flat = true := hy.resolve_right hp
    have hx1 := frzL_ok hS d hok hx
    rw [hys] at hx1
    refine (h.2 (S.shut H) cargs (shut_rel hS) hx1).mono fun e w' hh => ?_
    obtain ⟨v, S2, x, H', rfl, rfl, ev, hS2, hv, rfl, rfl⟩ := hh
    let S' : MS := { S with w := S2.w }
    have ev' : Evo S S' := ⟨rfl, ev.os, ev.tape, ev.output, ev.size, fun b hb => ev.kept b (hb.imp .inl .inl), fun _ hb => hb, fun _ hb => hb, fun _ hb => .inl hb, Nat.le_refl _, fun _ _ => Nat.le_refl _, fun _ _ _ => ⟨rfl, rfl, rfl⟩⟩
    refine ⟨v, S', x, H, rfl, rfl, ev', ?_, VRel.of_flat hfl hv, rfl, rfl⟩
    refine ⟨hS.n, fun g hg => ?_, hS.apart, fun b hb => ?_⟩
    · refine (hS.grp g hg).mono' ev' (by rw [hS.n]; exact hg) rfl (fun hq => ?_) (fun hq => (hS.grp g hg).has_ni hq)
      rcases hq with ⟨hw, hc⟩ | ⟨hw, he⟩
      · exact ev.kept _ (.inl (.inr ⟨g, hg, hw, hc, rfl⟩))
      · exact ev.kept _ (.inr (.inr ⟨g, hg, hw, he, rfl⟩))
    · have h1 := hS.im b hb
      have h2 : S.w.heap.size ≤ S2.w.heap.size := ev.size
      exact Nat.lt_of_lt_of_le h1 h2

/-- .. whose arguments are data as they stand. -/
theorem pc_call' {f : Nat} {xs : List AV} {y : AV} (h : PC P f xs y) (hp : pureL xs = true) {K : AV → AHeap → Prop} (hK : K y H) : ACalls P f xs H K :=
  (pc_call h 0 (frzL_pure H 0 hp).1 (frzL_pure H 0 hp).2 (.inr hp)).mono fun _ _ ⟨h1, h2⟩ => by rw [h1, h2]; exact hK
/-- .. whose answer says nothing of memory. -/
theorem pc_flat {f : Nat} {xs ys : List AV} {y : AV} (h : PC P f ys y) (d : Nat) (hok : ∀ x ∈ xs, frzOk d H x) (hys : xs.map (frzV d H) = ys) (hy : y.flat = true) {K : AV → AHeap → Prop} (hK : K y H) : ACalls P f xs H K :=
  (pc_call h d hok hys (.inl hy)).mono fun _ _ ⟨h1, h2⟩ => by rw [h1, h2]; exact hK

/-- WHAT A FUNCTION GIVES, FROM WHAT ITS CODE DOES. -/
theorem pc {f : Nat} {xs : List AV} {y : AV} {fn : AFn} (hf : compFn P f xs.length = some fn) (d : Nat) (h : T P fn.n 0 fn.body (entry xs) AHeap.nil (Ret P fn.res fun z H => frzOk d H z ∧ AV.le (frzV d H z) y)) : PC P f xs y :=
  pc_le d (acalls hf h)

end
end Go.Proofs.Ytdmjhlofphhldaa.Abs
