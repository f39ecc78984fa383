/-
  Calls that take data and give data: 'PC'. What is made in a call and never written again is data for the caller.
  The walk's rules, an operation at a time, what follows behind a letter.
  Numbers: bit patterns as sums and remainders; what a program's arithmetic leaves alone.
  Groups that nobody will write again are read as data: at a point of the code, and at a call.
  From a contract to what a statement asks: the answer, and that no memory that came in has turned.
  The walk as rewriting: what a piece of code asks ('W'), unfolded from the front, an operation at a time; it stops at calls and at loops.
  What each operation asks, as rules of rewriting.
  Groups numbered anew: at a point of the code some groups are kept, under new numbers; all others are read as data from there on.
  Heaps written out as lists of groups; heads of loops: which slots and which groups go on, and as what.
  The walk's rules for heaps that are written out, for heads of loops, and for calls.
  What comes in is data: numbers, Bools, texts, slices and records of them, however deep.
  A whole law: from a contract for all data that may come in to the row that it asks for.
  Loops over functions: an iterator hands on rows of numbers, one behind the other; the body is walked once.
  Where ways end: what is left, as what; a loop over a function, its rounds' groups given.
-/
import Derived.LoopN
import Derived.IntWalk
import Derived.Below
import Derived.Deep.Slices
import Derived.OpenShut
import Derived.Carry
import Derived.WideShapes
import Derived.ProofKit
import Derived.ChangeOld
import Derived.Test.YticodgjinajkpaaDT2
set_option linter.unusedSimpArgs false
set_option linter.unusedVariables false
namespace Go.Proofs.Yticodgjinajkpaa.Abs
mutual
def AV.flat : AV → Bool
 | .ref .. | .ptr .. | .map .. | .lst .. | .full .. | .cptr _ => false
 | .agg cs | .tup cs | .fn _ cs => zsq cs
 | .any | .bool _ | .int .. | .str _ | .nilS | .nul | .emp | .nilP | .nilF | .yld _ => true
def zsq : List AV → Bool
 | [] => true
 | x :: xs => x.flat && zsq xs
end
mutual
theorem VRel.of_flat {S S' : MS} : ∀ {x : AV} {v : Value}, x.flat = true → VRel S x v → VRel S' x v
 | .any, _, _, _ => trivial
 | .bool _, _, _, h => h
 | .int _ _, _, _, h => h
 | .str _, _, _, h => h
 | .nilS, _, _, h => h
 | .nul, _, _, h => h
 | .emp, _, _, h => h
 | .nilP, _, _, h => h
 | .nilF, _, _, h => h
 | .yld _, _, _, h => h
 | .agg _, _, hf, h => let ⟨vs, hv, hr⟩ := h; ⟨vs, hv, z03.of_flat (by simpa [AV.flat] using hf) hr⟩
 | .tup _, _, hf, h => let ⟨vs, hv, hr⟩ := h; ⟨vs, hv, z03.of_flat (by simpa [AV.flat] using hf) hr⟩
 | .fn _ _, _, hf, h => let ⟨vs, hv, hr⟩ := h; ⟨vs, hv, z03.of_flat (by simpa [AV.flat] using hf) hr⟩
 | .ref .., _, hf, _ => by simp [AV.flat] at hf
 | .ptr .., _, hf, _ => by simp [AV.flat] at hf
 | .lst .., _, hf, _ => by simp [AV.flat] at hf
 | .full .., _, hf, _ => by simp [AV.flat] at hf
 | .map .., _, hf, _ => by simp [AV.flat] at hf
 | .cptr _, _, hf, _ => by simp [AV.flat] at hf
theorem z03.of_flat {S S' : MS} : ∀ {xs : List AV} {vs : List Value}, zsq xs = true → z03 S xs vs → z03 S' xs vs
 | [], _, _, h => h
 | x :: xs, vs, hf, h => by
   obtain ⟨v, r, hv, h1, h2⟩ := h
   simp only [zsq, Bool.and_eq_true] at hf
   exact ⟨v, r, hv, VRel.of_flat hf.1 h1, z03.of_flat hf.2 h2⟩
end
mutual
theorem VRel.of_pure {S S' : MS} (hw : S'.w = S.w) (hi : ∀ b, S.im b → S'.im b) : ∀ {x : AV} {v : Value}, x.pure = true → VRel S x v → VRel S' x v
 | .any, _, _, _ => trivial
 | .bool _, _, _, h => h
 | .int _ _, _, _, h => h
 | .str _, _, _, h => h
 | .nilS, _, _, h => h
 | .nul, _, _, h => h
 | .emp, _, _, h => h
 | .nilP, _, _, h => h
 | .nilF, _, _, h => h
 | .yld _, _, _, h => h
 | .agg _, _, hf, h => let ⟨vs, hv, hr⟩ := h; ⟨vs, hv, z03.of_pure hw hi (by simpa [AV.pure] using hf) hr⟩
 | .tup _, _, hf, h => let ⟨vs, hv, hr⟩ := h; ⟨vs, hv, z03.of_pure hw hi (by simpa [AV.pure] using hf) hr⟩
 | .fn _ _, _, hf, h => let ⟨vs, hv, hr⟩ := h; ⟨vs, hv, z03.of_pure hw hi (by simpa [AV.pure] using hf) hr⟩
 | .ref .., _, hf, _ => by simp [AV.pure] at hf
 | .ptr .., _, hf, _ => by simp [AV.pure] at hf
 | .map .., _, hf, _ => by simp [AV.pure] at hf
 | .lst wd xs, v, _, h => by
   obtain ⟨hp, h0, a, cap, vs, hv, hc, hl, hr⟩ := h
   exact ⟨hp, h0, a, cap, vs, hv, hc, z03.of_pure hw hi hp hl, fun hne => let ⟨b, o, ha, him, hrow⟩ := hr hne; ⟨b, o, ha, hi b him, by rw [hw]; exact hrow⟩⟩
 | .full wd xs, v, _, h => by
   obtain ⟨hp, h0, a, vs, hv, hc, hl, hr⟩ := h
   exact ⟨hp, h0, a, vs, hv, hc, z03.of_pure hw hi hp hl, fun hne => let ⟨b, o, ha, him, hrow⟩ := hr hne; ⟨b, o, ha, hi b him, by rw [hw]; exact hrow⟩⟩
 | .cptr x, v, _, h => by
   obtain ⟨hp, b, o, u, hv, him, hx, hl⟩ := h
   exact ⟨hp, b, o, u, hv, hi b him, VRel.of_pure hw hi hp hx, by rw [hw]; exact hl⟩
theorem z03.of_pure {S S' : MS} (hw : S'.w = S.w) (hi : ∀ b, S.im b → S'.im b) : ∀ {xs : List AV} {vs : List Value}, z0h xs = true → z03 S xs vs → z03 S' xs vs
 | [], _, _, h => h
 | x :: xs, vs, hf, h => by
   obtain ⟨v, r, hv, h1, h2⟩ := h
   simp only [z0h, Bool.and_eq_true] at hf
   exact ⟨v, r, hv, VRel.of_pure hw hi hf.1 h1, z03.of_pure hw hi hf.2 h2⟩
end
mutual
theorem VRel.lift {S S' : MS} (h0 : S.n = 0) (hw : S'.w = S.w) (hi : ∀ b, S.im b → S'.im b) : ∀ {x : AV} {v : Value}, VRel S x v → VRel S' x v
 | .any, _, _ => trivial
 | .bool _, _, h => h
 | .int _ _, _, h => h
 | .str _, _, h => h
 | .nilS, _, h => h
 | .nul, _, h => h
 | .emp, _, h => h
 | .nilP, _, h => h
 | .nilF, _, h => h
 | .yld _, _, h => h
 | .agg _, _, h => let ⟨vs, hv, hr⟩ := h; ⟨vs, hv, z03.lift h0 hw hi hr⟩
 | .tup _, _, h => let ⟨vs, hv, hr⟩ := h; ⟨vs, hv, z03.lift h0 hw hi hr⟩
 | .fn _ _, _, h => let ⟨vs, hv, hr⟩ := h; ⟨vs, hv, z03.lift h0 hw hi hr⟩
 | .ref .., _, h => by obtain ⟨_, hg, _⟩ := h; omega
 | .ptr .., _, h => by obtain ⟨_, hg, _⟩ := h; omega
 | .map .., _, h => by obtain ⟨_, hg, _⟩ := h; omega
 | .lst wd xs, v, h => by
   obtain ⟨hp, hz, a, cap, vs, hv, hc, hl, hr⟩ := h
   exact ⟨hp, hz, a, cap, vs, hv, hc, z03.lift h0 hw hi hl, fun hne => let ⟨b, o, ha, him, hrow⟩ := hr hne; ⟨b, o, ha, hi b him, by rw [hw]; exact hrow⟩⟩
 | .full wd xs, v, h => by
   obtain ⟨hp, hz, a, vs, hv, hc, hl, hr⟩ := h
   exact ⟨hp, hz, a, vs, hv, hc, z03.lift h0 hw hi hl, fun hne => let ⟨b, o, ha, him, hrow⟩ := hr hne; ⟨b, o, ha, hi b him, by rw [hw]; exact hrow⟩⟩
 | .cptr x, v, h => by
   obtain ⟨hp, b, o, u, hv, him, hx, hl⟩ := h
   exact ⟨hp, b, o, u, hv, hi b him, VRel.lift h0 hw hi hx, by rw [hw]; exact hl⟩
theorem z03.lift {S S' : MS} (h0 : S.n = 0) (hw : S'.w = S.w) (hi : ∀ b, S.im b → S'.im b) : ∀ {xs : List AV} {vs : List Value}, z03 S xs vs → z03 S' xs vs
 | [], _, h => h
 | x :: xs, vs, h => by
   obtain ⟨v, r, hv, h1, h2⟩ := h
   exact ⟨v, r, hv, VRel.lift h0 hw hi h1, z03.lift h0 hw hi h2⟩
end
def frzV : Nat → z02 → AV → AV
 | d + 1, H, .ref g _ off len => .lst (H.at_ g).w ((((H.at_ g).xs.drop off).take len).map (frzV d H))
 | d + 1, H, .ptr g _ i o => if o = 0 then .cptr (frzV d H ((H.at_ g).xs.getD i .any)) else .any
 | d + 1, H, .agg cs => .agg (cs.map (frzV d H))
 | d + 1, H, .tup cs => .tup (cs.map (frzV d H))
 | d + 1, H, .fn f cs => .fn f (cs.map (frzV d H))
 | _, _, x => x
def z2j : Nat → z02 → AV → Prop
 | d + 1, H, .ref g v off len => (H.at_ g).ver = v ∧ 0 < (H.at_ g).w ∧ off + len ≤ (H.at_ g).xs.length ∧ ∀ y ∈ ((H.at_ g).xs.drop off).take len, z2j d H y
 | d + 1, H, .ptr g v i o => (H.at_ g).ver = v ∧ i < (H.at_ g).xs.length ∧ 0 < (H.at_ g).w ∧ o = 0 ∧ z2j d H ((H.at_ g).xs.getD i .any)
 | d + 1, H, .agg cs => ∀ y ∈ cs, z2j d H y
 | d + 1, H, .tup cs => ∀ y ∈ cs, z2j d H y
 | d + 1, H, .fn _ cs => ∀ y ∈ cs, z2j d H y
 | _, _, x => x.pure = true
theorem z2q : ∀ {xs : List AV}, z0h xs = true ↔ ∀ x ∈ xs, x.pure = true
 | [] => by simp [z0h]
 | x :: xs => by simp [z0h, z2q]
theorem zbz (H : z02) : ∀ (d : Nat) {x : AV}, x.pure = true → z2j d H x ∧ frzV d H x = x
 | 0, x, h => by cases x <;> exact ⟨h, rfl⟩
 | d + 1, x, h => by
   have key : ∀ cs : List AV, z0h cs = true → (∀ y ∈ cs, z2j d H y) ∧ cs.map (frzV d H) = cs := fun cs hc => by
     refine ⟨fun y hy => (zbz H d (z2q.1 hc y hy)).1, ?_⟩
     have : cs.map (frzV d H) = cs.map id := List.map_congr_left fun y hy => (zbz H d (z2q.1 hc y hy)).2
     simpa using this
   cases x with
   | ref => simp [AV.pure] at h
   | ptr => simp [AV.pure] at h
   | map => simp [AV.pure] at h
   | agg cs => obtain ⟨k1, k2⟩ := key cs (by simpa [AV.pure] using h); exact ⟨k1, by simp only [frzV, k2]⟩
   | tup cs => obtain ⟨k1, k2⟩ := key cs (by simpa [AV.pure] using h); exact ⟨k1, by simp only [frzV, k2]⟩
   | fn f cs => obtain ⟨k1, k2⟩ := key cs (by simpa [AV.pure] using h); exact ⟨k1, by simp only [frzV, k2]⟩
   | _ => exact ⟨h, rfl⟩
theorem z79 (H : z02) (d : Nat) {xs : List AV} (h : z0h xs = true) : (∀ y ∈ xs, z2j d H y) ∧ xs.map (frzV d H) = xs := by
 refine ⟨fun y hy => (zbz H d (z2q.1 h y hy)).1, ?_⟩
 have : xs.map (frzV d H) = xs.map id := List.map_congr_left fun y hy => (zbz H d (z2q.1 h y hy)).2
 simpa using this
def MS.shut (S : MS) (H : z02) : MS := { S with n := 0, im := fun b => S.im b ∨ ∃ g, g < H.n ∧ 0 < (H.at_ g).w ∧ 0 < S.cap g ∧ b = S.place g, keep := fun b => S.keep b ∨ ∃ g, g < H.n ∧ (H.at_ g).w = 0 ∧ (H.at_ g).exact = true ∧ b = S.place g }
theorem znp {S : MS} {H : z02} (h : SRel S H) : SRel (S.shut H) z02.nil where
 n := rfl
 grp g hg := absurd hg (Nat.not_lt_zero _)
 apart g _ hg := absurd hg (Nat.not_lt_zero _)
 im b hb := by
   rcases hb with (hb | ⟨g, hg, hw, hc, rfl⟩) | (hb | ⟨g, hg, hw, he, rfl⟩)
   · exact h.im b (.inl hb)
   · exact (h.grp g hg).lt hw hc
   · exact h.im b (.inr hb)
   · exact (h.grp g hg).mlt hw he
theorem zxi {S0 S : MS} {H : z02} (e : Evo S0 S) (h0 : S0.n = 0) (h : SRel S H) : Evo S0 (S.shut H) where
 base := e.base
 os := e.os
 tape := e.tape
 output := e.output
 size := e.size
 kept := e.kept
 im b hb := .inl (e.im b hb)
 keep b hb := .inl (e.keep b hb)
 fresh b hb := by
   rcases hb with hb | ⟨g, hg, hw, hc, rfl⟩
   · exact e.fresh b hb
   · exact .inr fun hk => ((h.grp g hg).live hw hc).2 (.inr (e.keep _ hk))
 n := by rw [h0]; exact Nat.le_refl _
 cur g hg := by omega
 same g hg := by omega
theorem zix {S : MS} {H : z02} (h : SRel S H) : ∀ (d : Nat) {x : AV} {v : Value}, z2j d H x → VRel S x v → VRel (S.shut H) (frzV d H x) v ∧ (frzV d H x).pure = true
 | 0, x, v, hf, hv => by
   have hp : x.pure = true := by cases x <;> exact hf
   have he : frzV 0 H x = x := by cases x <;> rfl
   rw [he]
   exact ⟨VRel.of_pure (S := S) (S' := S.shut H) rfl (fun _ hb => .inl hb) hp hv, hp⟩
 | d + 1, x, v, hf, hv => by
   have keyL : ∀ {cs : List AV} {vs : List Value}, (∀ y ∈ cs, z2j d H y) → z03 S cs vs → z03 (S.shut H) (cs.map (frzV d H)) vs ∧ z0h (cs.map (frzV d H)) = true := by
     intro cs
     induction cs with
     | nil => intro vs _ hh; exact ⟨hh, rfl⟩
     | cons c cs ih =>
       intro vs hc hh
       obtain ⟨u, r, rfl, h1, h2⟩ := hh
       obtain ⟨k1, k2⟩ := zix h d (hc c (by simp)) h1
       obtain ⟨k3, k4⟩ := ih (fun y hy => hc y (by simp [hy])) h2
       exact ⟨⟨u, r, rfl, k1, k3⟩, by simp [z0h, k2, k4]⟩
   cases x with
   | ref g vn off len =>
     obtain ⟨h1, h2, h3, h4⟩ := hf
     obtain ⟨_, hg, hc, hp⟩ := hv
     have hG := h.live_of hg
     obtain ⟨a, cap', rfl, hcase⟩ := hp (by rw [hG.ver, h1])
     have hl : ((((H.at_ g).xs.drop off).take len).map (frzV d H)).length = len := by simp; omega
     have hnone : a = none → cap' = 0 := fun hn => by
       rcases hcase with ⟨rfl, _⟩ | ⟨_, hh, _⟩
       · cases hn
       · exact hh
     by_cases hc0 : S.cap g = 0
     · have hlen := hG.len h2
       have hnil : ((H.at_ g).xs.drop off).take len = [] := List.eq_nil_of_length_eq_zero (by simp; omega)
       simp only [frzV, hnil, List.map_nil] at hl ⊢
       exact ⟨⟨rfl, h2, a, cap', [], by rw [← hl], ⟨Nat.zero_le _, hnone⟩, rfl, fun hne => absurd rfl hne⟩, rfl⟩
     obtain ⟨⟨cells, TT, us, hb, hcs, hus, hfl⟩, _⟩ := hG.live h2 (by omega)
     obtain ⟨k1, k2⟩ := keyL h4 ((hus.drop off).take len)
     refine ⟨⟨k2, h2, a, cap', _, by rw [hl], ⟨?_, hnone⟩, k1, fun hne => ?_⟩, k2⟩
     · rw [hl]; rcases hcase with ⟨_, c2, c3⟩ | ⟨c1, c2, _⟩ <;> omega
     · rcases hcase with ⟨rfl, _, _⟩ | ⟨c1, _, _⟩
       · refine ⟨_, _, rfl, .inr ⟨g, by rw [← h.n]; exact hg, h2, by omega, rfl⟩, fun j u hu => ?_⟩
         rw [List.getElem?_take] at hu
         split at hu
         · rw [List.getElem?_drop] at hu
           have := hfl.row hb (off + j) u hu
           rw [Nat.zero_add, Nat.add_mul] at this
           rw [hG.wid]
           exact this
         · cases hu
       · exact absurd (List.eq_nil_of_length_eq_zero (by rw [hl]; exact c1)) hne
   | ptr g vn i o =>
     obtain ⟨h1, h2, h3, h4, h5⟩ := hf
     subst h4
     obtain ⟨_, hg, hc, hp⟩ := hv
     have hG := h.live_of hg
     obtain rfl : v = _ := hp (by rw [hG.ver, h1])
     obtain ⟨u, hu, hl⟩ := hG.elem h3 h2
     obtain ⟨k1, k2⟩ := zix h d h5 hu
     refine ⟨?_, ?_⟩
     · simp only [frzV, if_true]
       refine ⟨k2, S.place g, i * (H.at_ g).w, u, ?_, .inr ⟨g, by rw [← h.n]; exact hg, h3, by have := hG.len h3; omega, rfl⟩, k1, ?_⟩
       · rw [hG.wid]; rfl
       · rw [hl.1]; exact hl
     · simp only [frzV, if_true, AV.pure]; exact k2
   | agg cs => obtain ⟨vs, rfl, hr⟩ := hv; obtain ⟨k1, k2⟩ := keyL hf hr; exact ⟨⟨vs, rfl, k1⟩, by simpa [frzV, AV.pure] using k2⟩
   | tup cs => obtain ⟨vs, rfl, hr⟩ := hv; obtain ⟨k1, k2⟩ := keyL hf hr; exact ⟨⟨vs, rfl, k1⟩, by simpa [frzV, AV.pure] using k2⟩
   | fn f cs => obtain ⟨vs, rfl, hr⟩ := hv; obtain ⟨k1, k2⟩ := keyL hf hr; exact ⟨⟨vs, rfl, k1⟩, by simpa [frzV, AV.pure] using k2⟩
   | any => exact ⟨trivial, rfl⟩
   | bool b => exact ⟨hv, rfl⟩
   | int k n => exact ⟨hv, rfl⟩
   | str s => exact ⟨hv, rfl⟩
   | nilS => exact ⟨hv, rfl⟩
   | nul => exact ⟨hv, rfl⟩
   | emp => exact ⟨hv, rfl⟩
   | nilP => exact ⟨hv, rfl⟩
   | nilF => exact ⟨hv, rfl⟩
   | yld l => exact ⟨hv, rfl⟩
   | full w xs => exact ⟨VRel.of_pure (S := S) (S' := S.shut H) rfl (fun _ hb => .inl hb) hf hv, hf⟩
   | map g v => simp [z2j, AV.pure] at hf
   | lst w xs => exact ⟨VRel.of_pure (S := S) (S' := S.shut H) rfl (fun _ hb => .inl hb) hf hv, hf⟩
   | cptr x => exact ⟨VRel.of_pure (S := S) (S' := S.shut H) rfl (fun _ hb => .inl hb) hf hv, hf⟩
theorem zsr {S : MS} {H : z02} (h : SRel S H) (d : Nat) : ∀ {xs : List AV} {vs : List Value}, (∀ y ∈ xs, z2j d H y) → z03 S xs vs → z03 (S.shut H) (xs.map (frzV d H)) vs
 | [], _, _, hh => hh
 | x :: xs, vs, hc, hh => by
   obtain ⟨u, r, rfl, h1, h2⟩ := hh
   exact ⟨u, r, rfl, (zix h d (hc x (by simp)) h1).1, zsr h d (fun y hy => hc y (by simp [hy])) h2⟩
def PC (P : Program) (f : Nat) (xs : List AV) (y : AV) : Prop := z1f P f xs z02.nil fun z H => z = y ∧ H = z02.nil
section
variable {P : Program} {H : z02}
def AV.le (x y : AV) : Prop := ∀ (S : MS) (v : Value), VRel S x v → VRel S y v
def leL (xs ys : List AV) : Prop := ∀ (S : MS) (vs : List Value), z03 S xs vs → z03 S ys vs
theorem AV.le_refl (x : AV) : AV.le x x := fun _ _ h => h
theorem AV.le_of_eq {x y : AV} (h : x = y) : AV.le x y := h ▸ AV.le_refl x
theorem AV.le_trans {x y z : AV} (h : AV.le x y) (k : AV.le y z) : AV.le x z := fun S v hv => k S v (h S v hv)
theorem z2k : leL [] [] := fun _ _ h => h
theorem z0e {x y : AV} {xs ys : List AV} (h : AV.le x y) (k : leL xs ys) : leL (x :: xs) (y :: ys) := fun S _ ⟨v, r, hv, h1, h2⟩ => ⟨v, r, hv, h S v h1, k S r h2⟩
theorem AV.le_nilS {w : Nat} (hw : 0 < w) : AV.le .nilS (.lst w []) := fun _ v h => ⟨rfl, hw, none, 0, [], h, ⟨Nat.le_refl 0, fun _ => rfl⟩, rfl, fun hn => absurd rfl hn⟩
theorem AV.le_nul {w : Nat} (hw : 0 < w) : AV.le .nul (.lst w []) := fun _ v ⟨a, h⟩ => ⟨rfl, hw, a, 0, [], h, ⟨Nat.le_refl 0, fun _ => rfl⟩, rfl, fun hn => absurd rfl hn⟩
theorem AV.le_emp {w : Nat} (hw : 0 < w) : AV.le .emp (.lst w []) := fun _ v ⟨a, cap, h⟩ => ⟨rfl, hw, some a, cap, [], h, ⟨Nat.zero_le _, fun hn => by cases hn⟩, rfl, fun hn => absurd rfl hn⟩
theorem AV.le_agg {xs ys : List AV} (h : leL xs ys) : AV.le (.agg xs) (.agg ys) := fun S _ ⟨vs, hv, k⟩ => ⟨vs, hv, h S vs k⟩
theorem AV.le_lst {w : Nat} {xs ys : List AV} (hl : xs.length = ys.length) (hp : z0h ys = true) (h : leL xs ys) : AV.le (.lst w xs) (.lst w ys) := fun S v ⟨_, hw, a, cap, vs, hv, hc, hx, hr⟩ =>
 ⟨hp, hw, a, cap, vs, by rw [← hl]; exact hv, by rw [← hl]; exact hc, h S vs hx, fun hn => hr (fun hh => hn (List.eq_nil_of_length_eq_zero (by rw [← hl, hh]; rfl)))⟩
theorem z65 {f : Nat} {xs ys : List AV} {K : AV → z02 → Prop} (h : leL xs ys) (k : z1f P f ys H K) : z1f P f xs H K := ⟨k.1, fun S cargs hS hx => k.2 S cargs hS (h S cargs hx)⟩
theorem pc_le {f : Nat} {xs : List AV} {y : AV} (d : Nat) (h : z1f P f xs z02.nil fun z H => z2j d H z ∧ AV.le (frzV d H z) y) : PC P f xs y := by
 refine ⟨h.1, fun S cargs hS hx => (h.2 S cargs hS hx).mono fun e w' hh => ?_⟩
 obtain ⟨v, S', x, H', rfl, rfl, ev, hS', hv, h1, h2⟩ := hh
 obtain ⟨k1, _⟩ := zix hS' d h1 hv
 exact ⟨v, S'.shut H', y, z02.nil, rfl, rfl, zxi ev hS.n hS', znp hS', h2 _ _ k1, rfl, rfl⟩
theorem zss {f : Nat} {xs ys : List AV} {y : AV} (h : PC P f ys y) (d : Nat) (hok : ∀ x ∈ xs, z2j d H x) (hys : xs.map (frzV d H) = ys) (hy : y.flat = true ∨ z0h xs = true) : z1f P f xs H fun z H' => z = y ∧ H' = H := by
 refine ⟨h.1, fun S cargs hS hx => ?_⟩
 by_cases hp : z0h xs = true
 · have hys' : ys = xs := by rw [← hys]; exact (z79 H d hp).2
   subst hys'
   let S1 : MS := { S with n := 0, keep := fun b => S.keep b ∨ ∃ g, g < H.n ∧ (H.at_ g).has (S.cap g) ∧ b = S.place g }
   have hS1 : SRel S1 z02.nil := by
     refine ⟨rfl, fun g hg => absurd hg (Nat.not_lt_zero _), fun g _ hg => absurd hg (Nat.not_lt_zero _), fun b hb => ?_⟩
     rcases hb with hb | hb | ⟨g, hg, hh, rfl⟩
     · exact hS.im b (.inl hb)
     · exact hS.im b (.inr hb)
     · exact (hS.grp g hg).has_lt hh
   refine (h.2 S1 cargs hS1 (z03.of_pure (S := S) (S' := S1) rfl (fun _ hb => hb) hp hx)).mono fun e w' hh => ?_
   obtain ⟨v, S2, x, H', rfl, rfl, ev, hS2, hv, rfl, rfl⟩ := hh
   let S' : MS := { S with w := S2.w, im := S2.im }
   have ev' : Evo S S' := by
     refine ⟨rfl, ev.os, ev.tape, ev.output, ev.size, fun b hb => ev.kept b (hb.imp id .inl), ev.im, fun _ hb => hb, fun b hb => ?_, Nat.le_refl _, fun _ _ => Nat.le_refl _, fun _ _ _ => ⟨rfl, rfl, rfl⟩⟩
     exact (ev.fresh b hb).imp id (fun hn hk => hn (.inl hk))
   refine ⟨v, S', x, H, rfl, rfl, ev', ?_, VRel.lift (S := S2) (S' := S') hS2.n rfl (fun _ hb => hb) hv, rfl, rfl⟩
   refine ⟨hS.n, fun g hg => ?_, hS.apart, fun b hb => ?_⟩
   · refine (hS.grp g hg).mono' ev' (by rw [hS.n]; exact hg) rfl (fun hq => ev.kept _ (.inr (.inr ⟨g, hg, hq, rfl⟩))) (fun hq hh => ?_)
     have hni := (hS.grp g hg).has_ni hq
     rcases hh with hh | hh
     · rcases ev.fresh _ hh with h1 | h1
       · exact hni (.inl h1)
       · exact h1 (.inr ⟨g, hg, hq, rfl⟩)
     · exact hni (.inr hh)
   · rcases hb with hb | hb
     · exact hS2.im b (.inl hb)
     · have h1 := hS.im b (.inr hb)
       have h2 : S.w.heap.size ≤ S2.w.heap.size := ev.size
       exact Nat.lt_of_lt_of_le h1 h2
 · have hfl : y.flat = true := hy.resolve_right hp
   have hx1 := zsr hS d hok hx
   rw [hys] at hx1
   refine (h.2 (S.shut H) cargs (znp hS) hx1).mono fun e w' hh => ?_
   obtain ⟨v, S2, x, H', rfl, rfl, ev, hS2, hv, rfl, rfl⟩ := hh
   let S' : MS := { S with w := S2.w }
   have ev' : Evo S S' := ⟨rfl, ev.os, ev.tape, ev.output, ev.size, fun b hb => ev.kept b (hb.imp .inl .inl), fun _ hb => hb, fun _ hb => hb, fun _ hb => .inl hb, Nat.le_refl _, fun _ _ => Nat.le_refl _, fun _ _ _ => ⟨rfl, rfl, rfl⟩⟩
   refine ⟨v, S', x, H, rfl, rfl, ev', ?_, VRel.of_flat hfl hv, rfl, rfl⟩
   refine ⟨hS.n, fun g hg => ?_, hS.apart, fun b hb => ?_⟩
   · refine (hS.grp g hg).mono' ev' (by rw [hS.n]; exact hg) rfl (fun hq => ?_) (fun hq => (hS.grp g hg).has_ni hq)
     rcases hq with ⟨hw, hc⟩ | ⟨hw, he⟩
     · exact ev.kept _ (.inl (.inr ⟨g, hg, hw, hc, rfl⟩))
     · exact ev.kept _ (.inr (.inr ⟨g, hg, hw, he, rfl⟩))
   · have h1 := hS.im b hb
     have h2 : S.w.heap.size ≤ S2.w.heap.size := ev.size
     exact Nat.lt_of_lt_of_le h1 h2
theorem z6p {f : Nat} {xs : List AV} {y : AV} (h : PC P f xs y) (hp : z0h xs = true) {K : AV → z02 → Prop} (hK : K y H) : z1f P f xs H K :=
 (zss h 0 (z79 H 0 hp).1 (z79 H 0 hp).2 (.inr hp)).mono fun _ _ ⟨h1, h2⟩ => by rw [h1, h2]; exact hK
theorem zst {f : Nat} {xs ys : List AV} {y : AV} (h : PC P f ys y) (d : Nat) (hok : ∀ x ∈ xs, z2j d H x) (hys : xs.map (frzV d H) = ys) (hy : y.flat = true) {K : AV → z02 → Prop} (hK : K y H) : z1f P f xs H K :=
 (zss h d hok hys (.inl hy)).mono fun _ _ ⟨h1, h2⟩ => by rw [h1, h2]; exact hK
theorem pc {f : Nat} {xs : List AV} {y : AV} {fn : AFn} (hf : z0k P f xs.length = some fn) (d : Nat) (h : T P fn.n 0 fn.body (entry xs) z02.nil (Ret P fn.res fun z H => z2j d H z ∧ AV.le (frzV d H z) y)) : PC P f xs y :=
 pc_le d (zsp hf h)
end
abbrev o0 (d : Nat) (k : AK) : AOp := ⟨some d, [], none, k⟩
abbrev o1 (d a : Nat) (k : AK) : AOp := ⟨some d, [.slot a], none, k⟩
abbrev o2 (d a b : Nat) (k : AK) : AOp := ⟨some d, [.slot a, .slot b], none, k⟩
abbrev o3 (d a b c : Nat) (k : AK) : AOp := ⟨some d, [.slot a, .slot b, .slot c], none, k⟩
abbrev c1 (d : Nat) (x : AV) (k : AK) : AOp := ⟨some d, [.const x], none, k⟩
abbrev c2 (d a : Nat) (x : AV) (k : AK) : AOp := ⟨some d, [.slot a, .const x], none, k⟩
abbrev k0 (d f : Nat) : AOp := ⟨some d, [.const (.fn f [])], none, .call⟩
abbrev k1 (d f a : Nat) : AOp := ⟨some d, [.const (.fn f []), .slot a], none, .call⟩
abbrev k2 (d f a b : Nat) : AOp := ⟨some d, [.const (.fn f []), .slot a, .slot b], none, .call⟩
abbrev k3 (d f a b c : Nat) : AOp := ⟨some d, [.const (.fn f []), .slot a, .slot b, .slot c], none, .call⟩
abbrev g1 (d g a : Nat) (k : AK) : AOp := ⟨some d, [.slot a], some (g, true), k⟩
abbrev g2 (d g a b : Nat) (k : AK) : AOp := ⟨some d, [.slot a, .slot b], some (g, true), k⟩
abbrev n2 (a b : Nat) (k : AK) : AOp := ⟨none, [.slot a, .slot b], none, k⟩
theorem zsu {α : Type} (f : Nat → α) (i : Nat) (y : α) (j : Nat) : fput f i y j = if j = i then y else f j := (rfl)
theorem zsv (f : Nat → Grp) (i : Nat) (y : Grp) (j : Nat) : hput f i y j = if j = i then y else f j := (rfl)
theorem zxj (env : Env) (d : Nat) (x : AV) (j : Nat) : Env.put env (some d) x j = if j = d then x else env j := (rfl)
theorem zxk (env : Env) (x : AV) : Env.put env none x = env := (rfl)
theorem zpw (x : AV) (xs : List AV) : entry (x :: xs) 0 = x := (rfl)
theorem zpx (x : AV) (xs : List AV) (n : Nat) : entry (x :: xs) (n + 1) = entry xs n := by simp [entry]
theorem zsw (env : Env) (t : Nat) : (AArg.slot t).eval env = env t := (rfl)
theorem zpy (env : Env) (x : AV) : (AArg.const x).eval env = x := (rfl)
theorem zpz (b w : Bool) (p q r : Prop) : z5c (.bool b) w p q r = ((b = w → p) ∧ (b = (!w) → q)) := by
 cases b <;> cases w <;> simp [z5c]
theorem zq0 (w : Bool) (p q r : Prop) : z5c (.tup []) w p q r = r := by cases w <;> rfl
theorem zsx {α : Type} (x : α) (f : α → Prop) : optK (some x) f = f x := (rfl)
def zlg (x : AV) (p q : Prop) : Prop := match x with
 | .bool b => (b = true → p) ∧ (b = false → q)
 | _ => False
section
variable {P : Program} {n b : Nat} {env : Env} {H : z02} {Q : Ex → Env → z02 → Prop} {K : Env → z02 → Prop}
theorem y6i {f m np : Nat} {xs : List AV} {y : AV} {res : List ARes} {B : AC} (hf : z0k P f xs.length = some ⟨m, np, res, B⟩) (d : Nat) (h : T P m 0 B (entry xs) z02.nil (Ret P res fun z H => z2j d H z ∧ AV.le (frzV d H z) y)) : PC P f xs y := pc hf d h
theorem z28 {K : Env → z02 → Prop} : Ex.then K Q .normal env H = K env H := (rfl)
theorem z29 {K : Env → z02 → Prop} : Ex.then K Q .ret env H = Q .ret env H := (rfl)
theorem z30 {K : Env → z02 → Prop} {id : Nat} : Ex.then K Q (.exit id) env H = Q (.exit id) env H := (rfl)
theorem z31 {id : Nat} : Ex.inBlock id Q .normal env H = Q .normal env H := (rfl)
theorem z32 {id : Nat} : Ex.inBlock id Q .ret env H = Q .ret env H := (rfl)
theorem z33 {id k : Nat} : Ex.inBlock id Q (.exit k) env H = if k = id then Q .normal env H else Q (.exit k) env H := (rfl)
end
theorem zsy (a b : Int) (h : 0 ≤ b) : a.fdiv b = a / b := Int.fdiv_eq_ediv_of_nonneg a h
theorem znq {n : Int} {k : IntKind} (h : 0 ≤ n ∧ n < 2 ^ k.bits) : (BitVec.ofInt k.bits n).toNat = n.toNat := by
 obtain ⟨m, rfl⟩ := Int.eq_ofNat_of_zero_le h.1
 have h2 : m < 2 ^ k.bits := by
   have := h.2
   exact_mod_cast this
 rw [BitVec.ofInt_natCast, BitVec.toNat_ofNat, Nat.mod_eq_of_lt h2, Int.toNat_natCast]
theorem zsz {x : Int} {k : IntKind} (i : Nat) (h : 0 ≤ x ∧ x < 2 ^ k.bits) (hi : i ≤ k.bits) (hw : k.wrap (x % 2 ^ i) = x % 2 ^ i) : z8b .and k x (2 ^ i - 1) = x % 2 ^ i := by
 obtain ⟨m, rfl⟩ := Int.eq_ofNat_of_zero_le h.1
 have hp : (0 : Int) < 2 ^ i := by exact_mod_cast Nat.two_pow_pos i
 have hq : (2 : Int) ^ i ≤ 2 ^ k.bits := by exact_mod_cast Nat.pow_le_pow_right (by decide) hi
 show k.wrap (BitVec.ofInt k.bits (m : Int) &&& BitVec.ofInt k.bits (2 ^ i - 1)).toNat = _
 have h2 : ((2 : Int) ^ i - 1).toNat = 2 ^ i - 1 := by
   have : (2 : Int) ^ i - 1 = ((2 ^ i - 1 : Nat) : Int) := by rw [Int.ofNat_sub (Nat.two_pow_pos i)]; simp
   rw [this, Int.toNat_natCast]
 rw [BitVec.toNat_and, znq h, znq ⟨by omega, by omega⟩, h2, Int.toNat_natCast, Nat.and_two_pow_sub_one_eq_mod]
 have : ((m % 2 ^ i : Nat) : Int) = (m : Int) % 2 ^ i := by simp
 rw [this, hw]
open IntWalk
def Grp.dead (G : Grp) : Grp := ⟨0, G.ver + 1, false, []⟩
def z02.kill (H : z02) (ks : List Nat) : z02 := ⟨H.n, fun g => if g ∈ ks then (H.at_ g).dead else H.at_ g⟩
def z02.only (H : z02) (ks : List Nat) : z02 := ⟨H.n, fun g => if g ∈ ks then H.at_ g else (H.at_ g).dead⟩
def MS.only (S : MS) (ks : List Nat) : MS := { S with cur := fun g => if g ∈ ks then S.cur g else S.cur g + 1, wid := fun g => if g ∈ ks then S.wid g else 0 }
def MS.kill (S : MS) (H : z02) (ks : List Nat) : MS := { S with
 im := fun b => S.im b ∨ ∃ g, g < H.n ∧ g ∈ ks ∧ 0 < (H.at_ g).w ∧ 0 < S.cap g ∧ b = S.place g
 cur := fun g => if g ∈ ks then S.cur g + 1 else S.cur g
 wid := fun g => if g ∈ ks then 0 else S.wid g }
section
variable {S : MS} {H : z02} (ks : List Nat)
theorem zgu : Evo S (S.only ks) := by
 refine ⟨rfl, rfl, rfl, rfl, Nat.le_refl _, fun _ _ => rfl, fun _ h => h, fun _ h => h, fun _ h => .inl h, Nat.le_refl _, fun g _ => ?_, fun g _ hc => ?_⟩
 · show S.cur g ≤ if g ∈ ks then S.cur g else S.cur g + 1
   split <;> omega
 · have hc' : (if g ∈ ks then S.cur g else S.cur g + 1) = S.cur g := hc
   refine ⟨rfl, rfl, ?_⟩
   show (if g ∈ ks then S.wid g else 0) = S.wid g
   by_cases h : g ∈ ks
   · rw [if_pos h]
   · rw [if_neg h] at hc'; omega
theorem znr {S' : MS} {G : Grp} {g : Nat} (h1 : S'.cur g = G.ver + 1) (h2 : S'.wid g = 0) : GRel S' G.dead g := ⟨h1, h2, fun h => absurd h (Nat.lt_irrefl _), fun h => absurd h (Nat.lt_irrefl _), fun h => absurd h (Nat.lt_irrefl _), fun _ h => by cases h⟩
theorem zns {G : Grp} {c : Nat} : ¬ G.dead.has c := by
 rintro (⟨h, _⟩ | ⟨_, h⟩)
 · exact absurd h (Nat.lt_irrefl _)
 · cases h
theorem zxl (h : SRel S H) : SRel (S.only ks) (H.only ks) where
 n := h.n
 grp g hg := by
   have hG := h.grp g hg
   by_cases hk : g ∈ ks
   · have e1 : (H.only ks).at_ g = H.at_ g := by show (if g ∈ ks then _ else _) = _; rw [if_pos hk]
     have e2 : (S.only ks).cur g = S.cur g := by show (if g ∈ ks then _ else _) = _; rw [if_pos hk]
     have e3 : (S.only ks).wid g = S.wid g := by show (if g ∈ ks then _ else _) = _; rw [if_pos hk]
     rw [e1]
     refine ⟨e2.trans hG.ver, e3.trans hG.wid, fun hw hc => ?_, hG.len, hG.full, fun hw he => ?_⟩
     · obtain ⟨⟨cells, T, vs, a1, a2, a3, a4⟩, b⟩ := hG.live hw hc
       exact ⟨⟨cells, T, vs, a1, a2, z03.mono (zgu ks) _ a3, a4⟩, b⟩
     · obtain ⟨⟨es, clock, a1, a2⟩, b⟩ := hG.mlive hw he
       exact ⟨⟨es, clock, a1, z03.mono (zgu ks) _ a2⟩, b⟩
   · have e1 : (H.only ks).at_ g = (H.at_ g).dead := by show (if g ∈ ks then _ else _) = _; rw [if_neg hk]
     have e2 : (S.only ks).cur g = S.cur g + 1 := by show (if g ∈ ks then _ else _) = _; rw [if_neg hk]
     have e3 : (S.only ks).wid g = 0 := by show (if g ∈ ks then _ else _) = _; rw [if_neg hk]
     rw [e1]
     exact znr (by rw [e2, hG.ver]) e3
 apart g g' hg hg' hne hw hw' := by
   have key : ∀ g, ((H.only ks).at_ g).has (S.cap g) → (H.at_ g).has (S.cap g) := fun g hw => by
     have : (if g ∈ ks then H.at_ g else (H.at_ g).dead).has (S.cap g) := hw
     split at this
     · exact this
     · exact absurd this zns
   exact h.apart g g' hg hg' hne (key g hw) (key g' hw')
 im := h.im
theorem z7w (h : SRel S H) : Evo S (S.kill H ks) := by
 refine ⟨rfl, rfl, rfl, rfl, Nat.le_refl _, fun _ _ => rfl, fun _ h => .inl h, fun _ h => h, fun b hb => ?_, Nat.le_refl _, fun g _ => ?_, fun g _ hc => ?_⟩
 · rcases hb with hb | ⟨g, hg, _, hw, hc, rfl⟩
   · exact .inl hb
   · exact .inr fun hk => ((h.grp g hg).live hw hc).2 (.inr hk)
 · show S.cur g ≤ if g ∈ ks then S.cur g + 1 else S.cur g
   split <;> omega
 · have hc' : (if g ∈ ks then S.cur g + 1 else S.cur g) = S.cur g := hc
   refine ⟨rfl, rfl, ?_⟩
   show (if g ∈ ks then 0 else S.wid g) = S.wid g
   by_cases h : g ∈ ks
   · rw [if_pos h] at hc'; omega
   · rw [if_neg h]
theorem zgv (h : SRel S H) : SRel (S.kill H ks) (H.kill ks) where
 n := h.n
 grp g hg := by
   have hG := h.grp g hg
   by_cases hk : g ∈ ks
   · have e1 : (H.kill ks).at_ g = (H.at_ g).dead := by show (if g ∈ ks then _ else _) = _; rw [if_pos hk]
     have e2 : (S.kill H ks).cur g = S.cur g + 1 := by show (if g ∈ ks then _ else _) = _; rw [if_pos hk]
     have e3 : (S.kill H ks).wid g = 0 := by show (if g ∈ ks then _ else _) = _; rw [if_pos hk]
     rw [e1]
     exact znr (by rw [e2, hG.ver]) e3
   · have e1 : (H.kill ks).at_ g = H.at_ g := by show (if g ∈ ks then _ else _) = _; rw [if_neg hk]
     have e2 : (S.kill H ks).cur g = S.cur g := by show (if g ∈ ks then _ else _) = _; rw [if_neg hk]
     have e3 : (S.kill H ks).wid g = S.wid g := by show (if g ∈ ks then _ else _) = _; rw [if_neg hk]
     rw [e1]
     have hni : (H.at_ g).has (S.cap g) → ¬ ((S.kill H ks).im (S.place g) ∨ (S.kill H ks).keep (S.place g)) := fun hq => by
       have b3 := hG.has_ni hq
       rintro ((hi | ⟨g', hg', hk', hw', hc', he⟩) | hi)
       · exact b3 (.inl hi)
       · exact h.apart g g' hg hg' (fun hgg => hk (hgg ▸ hk')) hq (.inl ⟨hw', hc'⟩) he
       · exact b3 (.inr hi)
     refine ⟨e2.trans hG.ver, e3.trans hG.wid, fun hw hc => ?_, hG.len, hG.full, fun hw he => ?_⟩
     · obtain ⟨⟨cells, T, vs, a1, a2, a3, a4⟩, b3⟩ := hG.live hw hc
       exact ⟨⟨cells, T, vs, a1, a2, z03.mono (z7w ks h) _ a3, a4⟩, hni (.inl ⟨hw, hc⟩)⟩
     · obtain ⟨⟨es, clock, a1, a2⟩, b3⟩ := hG.mlive hw he
       exact ⟨⟨es, clock, a1, z03.mono (z7w ks h) _ a2⟩, hni (.inr ⟨hw, he⟩)⟩
 apart g g' hg hg' hne hw hw' := by
   have key : ∀ g, ((H.kill ks).at_ g).has (S.cap g) → (H.at_ g).has (S.cap g) := fun g hw => by
     have : (if g ∈ ks then (H.at_ g).dead else H.at_ g).has (S.cap g) := hw
     split at this
     · exact absurd this zns
     · exact this
   exact h.apart g g' hg hg' hne (key g hw) (key g' hw')
 im b hb := by
   rcases hb with (hb | ⟨g, hg, _, hw, hc, rfl⟩) | hb
   · exact h.im b (.inl hb)
   · exact (h.grp g hg).lt hw hc
   · exact h.im b (.inr hb)
theorem zgw (h : SRel S H) (d : Nat) {x : AV} {v : Value} (hok : z2j d (H.only ks) x) (hv : VRel S x v) : VRel (S.kill H ks) (frzV d (H.only ks) x) v := by
 obtain ⟨k1, k2⟩ := zix (zxl ks h) d hok (VRel.mono (zgu ks) _ hv)
 refine VRel.of_pure (S := (S.only ks).shut (H.only ks)) (S' := S.kill H ks) rfl (fun b hb => ?_) k2 k1
 rcases hb with hb | ⟨g, hg, hw, hc, rfl⟩
 · exact .inl hb
 · have hw' : 0 < (if g ∈ ks then H.at_ g else (H.at_ g).dead).w := hw
   split at hw'
   · rename_i hk; exact .inr ⟨g, hg, hk, hw', hc, rfl⟩
   · exact absurd hw' (Nat.lt_irrefl _)
theorem ziy (h : SRel S H) (d : Nat) : ∀ {xs : List AV} {vs : List Value}, (∀ y ∈ xs, z2j d (H.only ks) y) → z03 S xs vs → z03 (S.kill H ks) (xs.map (frzV d (H.only ks))) vs
 | [], _, _, hh => hh
 | x :: xs, vs, hc, hh => by
   obtain ⟨u, r, rfl, h1, h2⟩ := hh
   exact ⟨u, r, rfl, zgw ks h d (hc x (by simp)) h1, ziy h d (fun y hy => hc y (by simp [hy])) h2⟩
end
theorem zgx {P : Program} {f : Nat} {xs : List AV} {H : z02} {K : AV → z02 → Prop} (d : Nat) (ks : List Nat) (hok : ∀ x ∈ xs, z2j d (H.only ks) x) (h : z1f P f (xs.map (frzV d (H.only ks))) (H.kill ks) K) : z1f P f xs H K := by
 refine ⟨h.1, fun S cargs hS hx => (h.2 (S.kill H ks) cargs (zgv ks hS) (ziy ks hS d hok hx)).mono fun e w' hh => ?_⟩
 obtain ⟨v, S', x, H', rfl, rfl, ev, hS', hv, hK⟩ := hh
 exact ⟨v, S', x, H', rfl, rfl, (z7w ks hS).trans ev, hS', hv, hK⟩
theorem y2c (G : Grp) : G.dead = ⟨0, G.ver + 1, false, []⟩ := (rfl)
theorem y6j (H : z02) (ks : List Nat) : (H.kill ks).n = H.n := (rfl)
theorem y6k (H : z02) (ks : List Nat) : (H.only ks).n = H.n := (rfl)
attribute [push_cast] zsw zpy zxk zsu zsv zpw zpx zpz zq0 zsx z28 z29 z30 z31 z32 z33 y6j y6k y2c
attribute [push_cast] List.map_cons List.map_nil List.drop_zero List.drop_succ_cons List.take_succ_cons List.take_zero List.drop_nil List.take_nil List.length_cons List.length_nil List.getD_cons_zero List.getD_cons_succ List.set_cons_zero List.set_cons_succ Option.getD_some Option.getD_none List.length_set List.append_assoc List.nil_append List.append_nil List.cons_append List.getElem?_cons_zero List.getElem?_cons_succ List.forall_mem_cons List.not_mem_nil List.length_map Bool.false_eq_true Bool.true_eq_false false_implies true_implies forall_const true_and and_true false_and and_false cond_true cond_false Bool.not_true Bool.not_false decide_eq_true_eq decide_eq_false_iff_not not_false_eq_true not_true_eq_false imp_false Nat.lt_irrefl Nat.le_refl Nat.zero_add Nat.add_zero Nat.zero_lt_succ Nat.lt_add_one implies_true decide_true decide_false Bool.not_eq_true Bool.not_eq_false Bool.not_eq_true' Bool.not_eq_false' eq_self Bool.and_self Bool.and_true Bool.true_and Bool.and_false Bool.false_and Bool.or_true Bool.true_or Bool.or_false Bool.false_or ne_eq Int.natCast_nonneg Int.toNat_natCast or_self true_or or_true false_or or_false and_self Int.cast_ofNat_Int if_true if_false
open Go.RowKit
def MS.start (w : World) : MS := ⟨w, fun b => b < w.heap.size, fun _ => False, 0, fun _ => 0, fun _ => 0, fun _ => 0, fun _ => 0, 0⟩
theorem zt0 (w : World) : SRel (MS.start w) z02.nil :=
 ⟨rfl, fun g hg => absurd hg (Nat.not_lt_zero _), fun g _ hg => absurd hg (Nat.not_lt_zero _), fun b hb => hb.elim id False.elim⟩
theorem PC.below {P : Program} {f : Nat} {xs : List AV} {b : Bool} (h : PC P f xs (.bool b)) {w : World} {cargs : List Value} (hx : z03 (MS.start w) xs cargs) :
   Calls P f cargs.toArray w fun e w' => e = .returned (.bool b) ∧ Below w.heap.size w w' := by
 refine (h.2 (MS.start w) cargs (zt0 w) hx).mono fun e w' hh => ?_
 obtain ⟨v, S', x, H', rfl, rfl, ev, _, hv, rfl, _⟩ := hh
 have hv' : v = .bool b := hv
 subst hv'
 exact ⟨rfl, ev.os, ev.tape, ev.output, ev.size, fun k hk => ev.kept k (.inl hk)⟩
theorem zq1 {w : World} {a : Addr} {v : Value} (h : w.cell? a = some v) : a.block < w.heap.size := by
 unfold World.cell? at h
 split at h
 · rename_i hb; exact (Array.getElem?_eq_some_iff.1 hb).1
 · cases h
class HK where
 f : AV → z02 → Prop
class HQ where
 f : AV → Prop
class HP where
 p : Prop
class HY where
 y : AV
def zlh (P : Program) (f : Nat) (xs : List AV) (H : z02) [K : HK] : Prop := z1f P f xs H K.f
def zxm (P : Program) (f : Nat) (xs : List AV) (H : z02) [K : HQ] : Prop := ∃ y, z1f P f xs H (fun z H' => z = y ∧ H' = H) ∧ K.f y
def z8e [L : HP] : Prop := L.p
def opK (P : Program) : AK → z02 → List AV → [HK] → Prop
 | .call, H, .fn f caps :: xs, K => zlh P f (xs ++ caps) H
 | k, H, xs, K => z04 P k H xs K.f
def opQ (P : Program) : AK → z02 → List AV → [HQ] → Prop
 | .call, H, .fn f caps :: xs, K => zxm P f (xs ++ caps) H
 | .bslice w len z idx, H, xs, K => z64 w len idx xs ∧ 0 < w ∧ z0h (z3n idx xs (List.replicate len z)) = true ∧ K.f (.full w (z3n idx xs (List.replicate len z)))
 | k, H, xs, K => k.still = true ∧ z04 P k H xs fun x _ => K.f x
def z41 (x : AV) (w : Bool) [p : HP] [q : HP] [r : HP] : Prop := z5c x w p.p q.p r.p
def wk (P : Program) : List AOp → Env → z02 → (Env → z02 → Prop) → Prop
 | [], env, H, K => K env H
 | ⟨dst, args, none, k⟩ :: l, env, H, K => @opK P k H (args.map (·.eval env)) ⟨fun x H' => wk P l (env.put dst x) H' K⟩
 | ⟨dst, args, some (d, want), k⟩ :: l, env, H, K => @z41 (env d) want
     ⟨@opK P k H (args.map (·.eval (env.put (some d) (.bool want)))) ⟨fun x H' => wk P l ((env.put (some d) (.bool want)).put dst x) H' K⟩⟩
     ⟨wk P l ((env.put (some d) (.bool (!want))).put dst (.tup [])) H K⟩ ⟨wk P l (env.put dst (.tup [])) H K⟩
def qk (P : Program) (H : z02) : List AOp → Env → (Env → Prop) → Prop
 | [], env, K => K env
 | ⟨dst, args, none, k⟩ :: l, env, K => @opQ P k H (args.map (·.eval env)) ⟨fun x => qk P H l (env.put dst x) K⟩
 | ⟨dst, args, some (d, want), k⟩ :: l, env, K => @z41 (env d) want
     ⟨@opQ P k H (args.map (·.eval (env.put (some d) (.bool want)))) ⟨fun x => qk P H l ((env.put (some d) (.bool want)).put dst x) K⟩⟩
     ⟨qk P H l ((env.put (some d) (.bool (!want))).put dst (.tup [])) K⟩ ⟨qk P H l (env.put dst (.tup [])) K⟩
class HG where
 f : AV → List Grp → Prop
def zxn (P : Program) (f : Nat) (xs : List AV) (l : List Grp) [K : HG] : Prop := ∃ y, (∀ H, z1f P f xs H fun z H' => z = y ∧ H' = H) ∧ K.f y l
def opG (P : Program) : AK → List Grp → List AV → [HG] → Prop
 | .call, l, .fn f caps :: xs, K => zxn P f (xs ++ caps) l
 | .bslice w len z idx, l, xs, K => z64 w len idx xs ∧ 0 < w ∧ z0h (z3n idx xs (List.replicate len z)) = true ∧ K.f (.full w (z3n idx xs (List.replicate len z))) l
 | k, l, xs, K => (k.still = true ∧ z0u (· < l.length) xs ∧ z04 P k (hl l) xs fun x _ => K.f x l) ∨ (k.still = false ∧ k.eff.isSome = true ∧ k.appOk = true ∧ zgh k xs ∧ z04 P k (hl l) xs fun x H' => ∀ l', H' = hl l' → K.f x l')
def gk (P : Program) : List AOp → Env → List Grp → (Env → List Grp → Prop) → Prop
 | [], env, l, K => K env l
 | ⟨dst, args, none, k⟩ :: r, env, l, K => @opG P k l (args.map (·.eval env)) ⟨fun x l' => gk P r (env.put dst x) l' K⟩
 | ⟨dst, args, some (d, want), k⟩ :: r, env, l, K => @z41 (env d) want
     ⟨@opG P k l (args.map (·.eval (env.put (some d) (.bool want)))) ⟨fun x l' => gk P r ((env.put (some d) (.bool want)).put dst x) l' K⟩⟩
     ⟨gk P r ((env.put (some d) (.bool (!want))).put dst (.tup [])) l K⟩ ⟨gk P r (env.put dst (.tup [])) l K⟩
def zli (x : AV) [p : HP] [q : HP] : Prop := zlg x p.p q.p
def W (P : Program) (n b : Nat) : AC → Env → z02 → (Ex → Env → z02 → Prop) → Prop
 | .skip, env, H, Q => Q .normal env H
 | .reg ops, env, H, Q => wk P ops env H fun env' H' => Q .normal env' H'
 | .dreg ops, env, H, Q => qk P H ops env fun env' => Q .normal env' H
 | .dtl pre post, env, H, Q => qk P H pre env fun env' => wk P post env' H fun env' H' => Q .normal env' H'
 | .greg ops, env, H, Q => ∃ l, H = hl l ∧ gk P ops env l fun env' l' => Q .normal env' (hl l')
 | .grx fl ops, env, H, Q => @z8e ⟨T P n b (.grx fl ops) env H Q⟩
 | .gry fl ops, env, H, Q => @z8e ⟨T P n b (.gry fl ops) env H Q⟩
 | .seq x y, env, H, Q => W P n b x env H (Ex.then (fun env' H' => W P n b y env' H' Q) Q)
 | .cond c x y, env, H, Q => @zli (c.eval env) ⟨W P n b x env H Q⟩ ⟨W P n b y env H Q⟩
 | .block id c, env, H, Q => W P n b c env H (Ex.inBlock id Q)
 | .loop c, env, H, Q => @z8e ⟨T P n b (.loop c) env H Q⟩
 | .rng f ps a c, env, H, Q => @z8e ⟨T P n b (.rng f ps a c) env H Q⟩
 | .exit id, env, H, Q => Q (.exit id) env H
 | .ret, env, H, Q => Q .ret env H
section
variable {P : Program} {n b : Nat} {env : Env} {H : z02} {Q : Ex → Env → z02 → Prop} {K : Env → z02 → Prop}
theorem znt (P : Program) (k : AK) (H : z02) (xs : List AV) (K : AV → z02 → Prop) : @opK P k H xs ⟨K⟩ = z04 P k H xs K := by
 unfold opK
 split <;> rfl
theorem y13 (P : Program) (k : AK) (H : z02) (xs : List AV) (K : AV → Prop) : @opQ P k H xs ⟨K⟩ = zii P k H xs K := by
 unfold opQ zii
 split
 · rfl
 · rfl
 · rename_i h1 h2
   split
   · rename_i f caps ys; exact absurd rfl (h2 f caps ys rfl)
   · rename_i w len z idx; exact absurd rfl (h1 w len z idx)
   · rfl
theorem zek (P : Program) : ∀ (l : List AOp) (env : Env) (H : z02) (K : Env → z02 → Prop), wk P l env H K = runK P l env H K
 | [], _, _, _ => rfl
 | ⟨dst, args, none, k⟩ :: l, env, H, K => by
   have h : (fun x H' => wk P l (env.put dst x) H' K) = fun x H' => runK P l (env.put dst x) H' K := funext fun x => funext fun H' => zek P l _ H' K
   show @opK P k H (args.map (·.eval env)) ⟨_⟩ = _
   rw [h, znt]
   rfl
 | ⟨dst, args, some (d, want), k⟩ :: l, env, H, K => by
   have h : ∀ env : Env, (fun x H' => wk P l (env.put dst x) H' K) = fun x H' => runK P l (env.put dst x) H' K := fun env => funext fun x => funext fun H' => zek P l _ H' K
   show @z41 (env d) want ⟨@opK P k H _ ⟨_⟩⟩ ⟨_⟩ ⟨_⟩ = _
   rw [h, znt, zek, zek]
   rfl
theorem zq2 (P : Program) (H : z02) : ∀ (l : List AOp) (env : Env) (K : Env → Prop), qk P H l env K = runQ P H l env K
 | [], _, _ => rfl
 | ⟨dst, args, none, k⟩ :: l, env, K => by
   have h : (fun x => qk P H l (env.put dst x) K) = fun x => runQ P H l (env.put dst x) K := funext fun x => zq2 P H l _ K
   show @opQ P k H (args.map (·.eval env)) ⟨_⟩ = _
   rw [h, y13]
   rfl
 | ⟨dst, args, some (d, want), k⟩ :: l, env, K => by
   have h : ∀ env : Env, (fun x => qk P H l (env.put dst x) K) = fun x => runQ P H l (env.put dst x) K := fun env => funext fun x => zq2 P H l _ K
   show @z41 (env d) want ⟨@opQ P k H _ ⟨_⟩⟩ ⟨_⟩ ⟨_⟩ = _
   rw [h, y13, zq2, zq2]
   rfl
theorem zt1 {k : AK} (h : k.still = true) : k.eff = none := by
 cases k <;> first | rfl | (simp [AK.still] at h)
theorem zac {k : AK} {l : List Grp} {xs : List AV} {K : AV → List Grp → Prop} (h : @opG P k l xs ⟨K⟩) : if k.eff.isNone then ∃ x, QG P k l xs x ∧ K x l else ∃ x l', z04 P k (hl l) xs (fun y H' => y = x ∧ H' = hl l') ∧ Comm P k l l' ∧ K x l' := by
 unfold opG at h
 split at h
 · obtain ⟨y, h1, h2⟩ := h
   exact ⟨y, .inl ⟨_, _, _, rfl, rfl, h1⟩, h2⟩
 · exact ⟨_, .inr (.inl ⟨_, _, _, _, rfl, h.1, h.2.1, h.2.2.1, rfl⟩), h.2.2.2⟩
 · rcases h with ⟨h1, h2, h3⟩ | ⟨_, h2, ha, ho, h3⟩
   · rw [zt1 h1]
     obtain ⟨x, h4, h5⟩ := zce h1 h3
     refine ⟨x, .inr (.inr ⟨h1, h2, ?_⟩), h5⟩
     exact still_mono h1 (fun _ _ hh => hh.1) h4
   · obtain ⟨e, he⟩ := Option.isSome_iff_exists.1 h2
     rw [if_neg (by rw [he]; simp)]
     obtain ⟨x, l', b1, b2, b3⟩ := y2b he ha ho h3
     exact ⟨x, l', b1, b3, b2 l' rfl⟩
theorem z8x {x : AV} {w : Bool} {p q r p' q' r' : Prop} (hp : p → p') (hq : q → q') (hr : r → r') (h : z5c x w p q r) : z5c x w p' q' r' := by
 unfold z5c at h ⊢
 split at h <;> first | exact hp h | exact hq h | exact hr h | exact h.elim
theorem zch (P : Program) : ∀ (L : List AOp) (env : Env) (l : List Grp) {K : Env → List Grp → Prop}, gk P L env l K → runG P L env l K
 | [], _, _, _, h => h
 | ⟨dst, args, none, k⟩ :: r, env, l, K, h => by
   have h' : @opG P k l (args.map (·.eval env)) ⟨fun x l' => gk P r (env.put dst x) l' K⟩ := h
   have := zac h'
   simp only [runG, z5d, AOp.vals, if_true]
   split at this
   · rename_i he
     rw [if_pos he]
     obtain ⟨x, h1, h2⟩ := this
     exact ⟨x, h1, zch P r _ _ h2⟩
   · rename_i he
     rw [if_neg he]
     obtain ⟨x, l', b1, b2, b3⟩ := this
     exact ⟨x, l', b1, b2, zch P r _ _ b3⟩
 | ⟨dst, args, some (d, want), k⟩ :: r, env, l, K, h => by
   have h' : z5c (env d) want (@opG P k l (args.map (·.eval (env.put (some d) (.bool want)))) ⟨fun x l' => gk P r ((env.put (some d) (.bool want)).put dst x) l' K⟩)
     (gk P r ((env.put (some d) (.bool (!want))).put dst (.tup [])) l K) (gk P r (env.put dst (.tup [])) l K) := h
   simp only [runG, z5d, AOp.vals, if_true, Bool.false_eq_true, if_false]
   refine z8x (fun h1 => ?_) (fun h1 => zch P r _ _ h1) (fun h1 => zch P r _ _ h1) h'
   have := zac h1
   split at this
   · rename_i he
     obtain ⟨x, h1, h2⟩ := this
     rw [if_pos he]
     exact ⟨x, h1, zch P r _ _ h2⟩
   · rename_i he
     rw [if_neg he]
     obtain ⟨x, l', b1, b2, b3⟩ := this
     exact ⟨x, l', b1, b2, zch P r _ _ b3⟩
theorem y14 {l l' : List Grp} (h : hl l = hl l') : l = l' := by
 have h1 : l.length = l'.length := congrArg z02.n h
 refine List.ext_getElem h1 fun i hi hi' => ?_
 have h2 : (hl l).at_ i = (hl l').at_ i := by rw [h]
 rw [z2g, z2g] at h2
 simpa [List.getD, hi, hi'] using h2
theorem W_T : ∀ {c : AC} {env : Env} {H : z02} {Q : Ex → Env → z02 → Prop}, W P n b c env H Q → T P n b c env H Q
 | .skip, _, _, _, h => y6c h
 | .reg ops, env, H, Q, h => T_reg (by have h' : wk P ops env H _ := h; rwa [zek] at h')
 | .dreg ops, env, H, Q, h => y6d (by have h' : qk P H ops env _ := h; rwa [zq2] at h')
 | .dtl pre post, env, H, Q, h => T_dtl (by
   have h' : qk P H pre env _ := h
   rw [zq2] at h'
   have e : (fun env' => wk P post env' H fun env' H' => Q .normal env' H') = fun env' => runK P post env' H fun env' H' => Q .normal env' H' := funext fun env' => zek P post env' H _
   rwa [e] at h')
 | .greg ops, env, H, Q, h => by
   obtain ⟨l, rfl, h'⟩ := h
   exact y6e (zch P ops env l h')
 | .grx .., _, _, _, h => h
 | .gry .., _, _, _, h => h
 | .seq x y, _, _, _, h => z8v (T.mono (W_T (c := x) h) fun z env H hh => by cases z <;> first | exact W_T (c := y) hh | exact hh)
 | .cond c x y, env, H, Q, h => by
   have h' : zlg (c.eval env) (W P n b x env H Q) (W P n b y env H Q) := h
   unfold zlg at h'
   split at h'
   · rename_i q hq; exact y6g hq (fun hb => W_T (h'.1 hb)) (fun hb => W_T (h'.2 hb))
   · exact h'.elim
 | .block id c, _, _, _, h => zso (W_T (c := c) h)
 | .loop c, _, _, _, h => h
 | .rng .., _, _, _, h => h
 | .exit id, _, _, _, h => y6h h
 | .ret, _, _, _, h => T_ret h
end
section
variable {P : Program} {n b : Nat} {env : Env} {H : z02} {Q : Ex → Env → z02 → Prop} {K : Env → z02 → Prop}
theorem z1 : W P n b .skip env H Q = Q .normal env H := (rfl)
theorem z2 {ops : List AOp} : W P n b (.reg ops) env H Q = wk P ops env H fun env' H' => Q .normal env' H' := (rfl)
theorem z3 {ops : List AOp} : W P n b (.dreg ops) env H Q = qk P H ops env fun env' => Q .normal env' H := (rfl)
theorem z4 {pre post : List AOp} : W P n b (.dtl pre post) env H Q = qk P H pre env fun env' => wk P post env' H fun env' H' => Q .normal env' H' := (rfl)
theorem z5 {ops : List AOp} {l : List Grp} : W P n b (.greg ops) env (hl l) Q = gk P ops env l fun env' l' => Q .normal env' (hl l') :=
 propext ⟨fun ⟨l', h1, h2⟩ => by rw [← y14 h1] at h2; exact h2, fun h => ⟨l, rfl, h⟩⟩
theorem z18 {l : List Grp} {K : Env → List Grp → Prop} : gk P [] env l K = K env l := (rfl)
theorem z19 {l : List Grp} {K : Env → List Grp → Prop} {dst : Option Nat} {args : List AArg} {k : AK} {r : List AOp} : gk P (⟨dst, args, none, k⟩ :: r) env l K = @opG P k l (args.map (·.eval env)) ⟨fun x l' => gk P r (env.put dst x) l' K⟩ := (rfl)
theorem z20 {l : List Grp} {K : Env → List Grp → Prop} {dst : Option Nat} {args : List AArg} {k : AK} {r : List AOp} {d : Nat} {want : Bool} : gk P (⟨dst, args, some (d, want), k⟩ :: r) env l K = @z41 (env d) want
     ⟨@opG P k l (args.map (·.eval (env.put (some d) (.bool want)))) ⟨fun x l' => gk P r ((env.put (some d) (.bool want)).put dst x) l' K⟩⟩
     ⟨gk P r ((env.put (some d) (.bool (!want))).put dst (.tup [])) l K⟩ ⟨gk P r (env.put dst (.tup [])) l K⟩ := (rfl)
theorem z6 {x y : AC} : W P n b (.seq x y) env H Q = W P n b x env H (Ex.then (fun env' H' => W P n b y env' H' Q) Q) := (rfl)
theorem z7 {c : AArg} {x y : AC} : W P n b (.cond c x y) env H Q = @zli (c.eval env) ⟨W P n b x env H Q⟩ ⟨W P n b y env H Q⟩ := (rfl)
theorem z8 {id : Nat} {c : AC} : W P n b (.block id c) env H Q = W P n b c env H (Ex.inBlock id Q) := (rfl)
theorem z9 {c : AC} : W P n b (.loop c) env H Q = @z8e ⟨T P n b (.loop c) env H Q⟩ := (rfl)
theorem z34 {f : AArg} {ps : List Nat} {a c : AC} : W P n b (.rng f ps a c) env H Q = @z8e ⟨T P n b (.rng f ps a c) env H Q⟩ := (rfl)
theorem z35 {fl : List Bool} {ops : List AOp} : W P n b (.grx fl ops) env H Q = @z8e ⟨T P n b (.grx fl ops) env H Q⟩ := (rfl)
theorem z36 {fl : List Bool} {ops : List AOp} : W P n b (.gry fl ops) env H Q = @z8e ⟨T P n b (.gry fl ops) env H Q⟩ := (rfl)
theorem z10 {id : Nat} : W P n b (.exit id) env H Q = Q (.exit id) env H := (rfl)
theorem z11 : W P n b .ret env H Q = Q .ret env H := (rfl)
theorem z12 : wk P [] env H K = K env H := (rfl)
theorem z13 {dst : Option Nat} {args : List AArg} {k : AK} {l : List AOp} : wk P (⟨dst, args, none, k⟩ :: l) env H K = @opK P k H (args.map (·.eval env)) ⟨fun x H' => wk P l (env.put dst x) H' K⟩ := (rfl)
theorem z14 {dst : Option Nat} {args : List AArg} {k : AK} {l : List AOp} {d : Nat} {want : Bool} : wk P (⟨dst, args, some (d, want), k⟩ :: l) env H K = @z41 (env d) want
     ⟨@opK P k H (args.map (·.eval (env.put (some d) (.bool want)))) ⟨fun x H' => wk P l ((env.put (some d) (.bool want)).put dst x) H' K⟩⟩
     ⟨wk P l ((env.put (some d) (.bool (!want))).put dst (.tup [])) H K⟩ ⟨wk P l (env.put dst (.tup [])) H K⟩ := (rfl)
theorem z15 {K : Env → Prop} : qk P H [] env K = K env := (rfl)
theorem z16 {K : Env → Prop} {dst : Option Nat} {args : List AArg} {k : AK} {l : List AOp} : qk P H (⟨dst, args, none, k⟩ :: l) env K = @opQ P k H (args.map (·.eval env)) ⟨fun x => qk P H l (env.put dst x) K⟩ := (rfl)
theorem z17 {K : Env → Prop} {dst : Option Nat} {args : List AArg} {k : AK} {l : List AOp} {d : Nat} {want : Bool} : qk P H (⟨dst, args, some (d, want), k⟩ :: l) env K = @z41 (env d) want
     ⟨@opQ P k H (args.map (·.eval (env.put (some d) (.bool want)))) ⟨fun x => qk P H l ((env.put (some d) (.bool want)).put dst x) K⟩⟩
     ⟨qk P H l ((env.put (some d) (.bool (!want))).put dst (.tup [])) K⟩ ⟨qk P H l (env.put dst (.tup [])) K⟩ := (rfl)
theorem z21 {p q r : Prop} : @z41 (.bool true) true ⟨p⟩ ⟨q⟩ ⟨r⟩ = p := (rfl)
theorem z22 {p q r : Prop} : @z41 (.bool false) false ⟨p⟩ ⟨q⟩ ⟨r⟩ = p := (rfl)
theorem z23 {p q r : Prop} : @z41 (.bool true) false ⟨p⟩ ⟨q⟩ ⟨r⟩ = q := (rfl)
theorem z24 {p q r : Prop} : @z41 (.bool false) true ⟨p⟩ ⟨q⟩ ⟨r⟩ = q := (rfl)
theorem z25 {w : Bool} {p q r : Prop} : @z41 (.tup []) w ⟨p⟩ ⟨q⟩ ⟨r⟩ = r := by cases w <;> rfl
theorem z00 {b w : Bool} {p q r : Prop} (hp : b = w → p) (hq : b = (!w) → q) : @z41 (.bool b) w ⟨p⟩ ⟨q⟩ ⟨r⟩ := zih hp hq
theorem z26 {p q : Prop} : @zli (.bool true) ⟨p⟩ ⟨q⟩ = p := by simp [zli, zlg]
theorem z27 {p q : Prop} : @zli (.bool false) ⟨p⟩ ⟨q⟩ = q := by simp [zli, zlg]
theorem z01 {b : Bool} {p q : Prop} (hp : b = true → p) (hq : b = false → q) : @zli (.bool b) ⟨p⟩ ⟨q⟩ := ⟨hp, hq⟩
end
theorem zci {P : Program} {env : Env} {H : z02} : ∀ {res : List ARes} {K K' : List AV → Prop}, (∀ xs, K xs → K' xs) → resK P res env H K → resK P res env H K'
 | [], _, _, hk, h => hk _ h
 | .slot t :: l, _, _, hk, h => zci (res := l) (fun xs hh => hk _ hh) h
 | .cell t a s :: l, _, _, hk, h => still_mono (k := .load a s) rfl (fun x _ hh => zci (res := l) (fun xs hh => hk _ hh) hh) h
theorem znu {P : Program} {res : List ARes} {K K' : AV → z02 → Prop} (hk : ∀ z H, K z H → K' z H) {x : Ex} {env : Env} {H : z02} (h : Ret P res K x env H) : Ret P res K' x env H := ⟨h.1, zci (fun xs hh => hk _ _ hh) h.2⟩
def nx (x : AV) (H : z02) [K : HK] : Prop := K.f x H
theorem y2d (x : AV) (H : z02) (f : AV → z02 → Prop) : @nx x H ⟨f⟩ = f x H := (rfl)
class HF (α : Type) where
 f : α → Prop
def optN {α : Type} (o : Option α) [F : HF α] : Prop := optK o F.f
theorem zt2 {α : Type} (x : α) (f : α → Prop) : @optN α (some x) ⟨f⟩ = f x := (rfl)
def ifN (c : Bool) [p : HP] [q : HP] : Prop := match c with
 | false => p.p
 | true => q.p
theorem zxo {p q : Prop} : @ifN true ⟨p⟩ ⟨q⟩ = q := (rfl)
theorem zt3 {p q : Prop} : @ifN false ⟨p⟩ ⟨q⟩ = p := (rfl)
def appN (w bytes : Nat) (s : AV) (news : List AV) (H : z02) [K : HK] : Prop := z8q w bytes s news H K.f
def slcN (w : Nat) (x : AV) (lo hi mx : Option Int) (H : z02) [K : HK] : Prop := z4u w x lo hi mx H fun y => K.f y H
def nq (x : AV) [K : HQ] : Prop := K.f x
theorem y2e (x : AV) (f : AV → Prop) : @nq x ⟨f⟩ = f x := (rfl)
section
variable {P : Program} {H : z02} {K : AV → z02 → Prop} {k : IntKind} {a b c : Int} {x y z : AV} {xs ys cs : List AV} {w s o i g v off len n : Nat} {p q r : Bool}
theorem K_mv : @opK P .mv H [x] ⟨K⟩ = @nx x H ⟨K⟩ := (rfl)
theorem y6l : @opK P .pick H [.bool p, x, y] ⟨K⟩ = @nx (bif p then x else y) H ⟨K⟩ := (rfl)
theorem y2f : @opK P (.alloc z w) H [] ⟨K⟩ = @nx (.ptr H.n 1 0 0) (H.push ⟨w, 1, true, [z]⟩) ⟨K⟩ := (rfl)
theorem K_box : @opK P .box H [x] ⟨K⟩ = (z4t x.cells = true ∧ 0 < x.cells.length ∧ @nx (.ptr H.n 1 0 0) (H.push ⟨x.cells.length, 1, true, [x]⟩) ⟨K⟩) := (rfl)
theorem y2g {zs : List AV} {pl : List (Nat × Nat)} {idx : List Nat} : @opK P (.build zs pl idx) H xs ⟨K⟩ = @optN _ (zgg pl idx xs zs) ⟨fun cs => @nx (.agg cs) H ⟨K⟩⟩ := (rfl)
theorem zxp {idx : List Nat} : @opK P (.bslice w len z idx) H xs ⟨K⟩ = (z64 w len idx xs ∧ @nx (.ref H.n 1 0 len) (H.push ⟨w, 1, true, z3n idx xs (List.replicate len z)⟩) ⟨K⟩) := (rfl)
theorem zxq : @opK P (.load p s) H [.cptr x] ⟨K⟩ = (x.isAny = false ∧ x.cells.length = s ∧ (p = false → s = 1) ∧ @nx (z2d p 0 s x) H ⟨K⟩) := (rfl)
theorem zxr : @opK P (.load p s) H [.ptr g v i o] ⟨K⟩ = ((H.at_ g).ver = v ∧ i < (H.at_ g).xs.length ∧ ((H.at_ g).xs.getD i .any).isAny = false ∧ ((H.at_ g).xs.getD i .any).cells.length = (H.at_ g).w ∧ 0 < s ∧ o + s ≤ (H.at_ g).w ∧
     (p = false → s = 1) ∧ @nx (z2d p o s ((H.at_ g).xs.getD i .any)) H ⟨K⟩) := (rfl)
theorem y2h : @opK P (.store s) H [.ptr g v i o, x] ⟨K⟩ = ((H.at_ g).ver = v ∧ i < (H.at_ g).xs.length ∧ 0 < s ∧ o + s ≤ (H.at_ g).w ∧ x.cells.length = s ∧ z4t x.cells = true ∧
     (s = (H.at_ g).w ∨ ((H.at_ g).xs.getD i .any).isAny = false ∧ ((H.at_ g).xs.getD i .any).cells.length = (H.at_ g).w) ∧
     @nx .any (H.set g ⟨(H.at_ g).w, v, (H.at_ g).exact, (H.at_ g).xs.set i (z8p (H.at_ g).w o s ((H.at_ g).xs.getD i .any) x)⟩) ⟨K⟩) := (rfl)
theorem y6m : @opK P .nilCheck H [.cptr x] ⟨K⟩ = @nx (.cptr x) H ⟨K⟩ := (rfl)
theorem y6n : @opK P .nilCheck H [.ptr g v i o] ⟨K⟩ = @nx (.ptr g v i o) H ⟨K⟩ := (rfl)
theorem y6o {f : Nat} : @opK P .nilCheck H [.fn f xs] ⟨K⟩ = @nx (.fn f xs) H ⟨K⟩ := (rfl)
theorem K_add : @opK P (.bin .add) H [.int k a, .int k b] ⟨K⟩ = @nx (.int k (k.wrap (a + b))) H ⟨K⟩ := by simp [opK, z04, binI, nx]
theorem K_sub : @opK P (.bin .sub) H [.int k a, .int k b] ⟨K⟩ = @nx (.int k (k.wrap (a - b))) H ⟨K⟩ := by simp [opK, z04, binI, nx]
theorem K_mul : @opK P (.bin .mul) H [.int k a, .int k b] ⟨K⟩ = @nx (.int k (k.wrap (a * b))) H ⟨K⟩ := by simp [opK, z04, binI, nx]
theorem K_quo : @opK P (.bin .quo) H [.int k a, .int k b] ⟨K⟩ = (b ≠ 0 ∧ @nx (.int k (k.wrap (a.tdiv b))) H ⟨K⟩) := by simp [opK, z04, binI, nx]
theorem K_rem : @opK P (.bin .rem) H [.int k a, .int k b] ⟨K⟩ = (b ≠ 0 ∧ @nx (.int k (a.tmod b)) H ⟨K⟩) := by simp [opK, z04, binI, nx]
theorem K_and : @opK P (.bin .and) H [.int k a, .int k b] ⟨K⟩ = @nx (.int k (z8b .and k a b)) H ⟨K⟩ := by simp [opK, z04, binI, nx]
theorem K_or : @opK P (.bin .or) H [.int k a, .int k b] ⟨K⟩ = @nx (.int k (z8b .or k a b)) H ⟨K⟩ := by simp [opK, z04, binI, nx]
theorem K_xor : @opK P (.bin .xor) H [.int k a, .int k b] ⟨K⟩ = @nx (.int k (z8b .xor k a b)) H ⟨K⟩ := by simp [opK, z04, binI, nx]
theorem zxs : @opK P (.bin .andNot) H [.int k a, .int k b] ⟨K⟩ = @nx (.int k (z8b .andNot k a b)) H ⟨K⟩ := by simp [opK, z04, binI, nx]
theorem K_shl {k' : IntKind} : @opK P (.bin .shl) H [.int k a, .int k' b] ⟨K⟩ = (0 ≤ b ∧ @nx (.int k (k.wrap (a * 2 ^ (Min.min b.toNat k.bits)))) H ⟨K⟩) := (rfl)
theorem K_shr {k' : IntKind} : @opK P (.bin .shr) H [.int k a, .int k' b] ⟨K⟩ = (0 ≤ b ∧ @nx (.int k (a.fdiv (2 ^ (Min.min b.toNat k.bits)))) H ⟨K⟩) := (rfl)
theorem K_eql : @opK P (.bin .eql) H [.int k a, .int k b] ⟨K⟩ = @nx (.bool (decide (a = b))) H ⟨K⟩ := by simp [opK, z04, binI, nx]
theorem K_neq : @opK P (.bin .neq) H [.int k a, .int k b] ⟨K⟩ = @nx (.bool (!decide (a = b))) H ⟨K⟩ := by simp [opK, z04, binI, nx]
theorem K_lss : @opK P (.bin .lss) H [.int k a, .int k b] ⟨K⟩ = @nx (.bool (decide (a < b))) H ⟨K⟩ := by simp [opK, z04, binI, nx]
theorem K_leq : @opK P (.bin .leq) H [.int k a, .int k b] ⟨K⟩ = @nx (.bool (decide (a ≤ b))) H ⟨K⟩ := by simp [opK, z04, binI, nx]
theorem K_gtr : @opK P (.bin .gtr) H [.int k a, .int k b] ⟨K⟩ = @nx (.bool (decide (b < a))) H ⟨K⟩ := by simp [opK, z04, binI, nx]
theorem K_geq : @opK P (.bin .geq) H [.int k a, .int k b] ⟨K⟩ = @nx (.bool (decide (b ≤ a))) H ⟨K⟩ := by simp [opK, z04, binI, nx]
theorem y6p {s t : List UInt8} : @opK P (.bin .eql) H [.str s, .str t] ⟨K⟩ = @nx (.bool (decide (s = t))) H ⟨K⟩ := (rfl)
theorem y6q {s t : List UInt8} : @opK P (.bin .neq) H [.str s, .str t] ⟨K⟩ = @nx (.bool (!decide (s = t))) H ⟨K⟩ := (rfl)
theorem K_eqb : @opK P (.eqb p) H [.bool q, .bool r] ⟨K⟩ = @nx (.bool (if p then !(q == r) else q == r)) H ⟨K⟩ := (rfl)
theorem K_eqs {ks : List Nat} : @opK P (.eqs p ks) H [.agg xs, .agg ys] ⟨K⟩ = @optN _ (eqL ks xs ys) ⟨fun b => @nx (.bool (if p then !b else b)) H ⟨K⟩⟩ := (rfl)
theorem zt4 : @opK P (.eqn p) H [.nilS, .nilS] ⟨K⟩ = @nx (.bool (!p)) H ⟨K⟩ := (rfl)
theorem zt5 : @opK P (.eqn p) H [.lst w xs, .nilS] ⟨K⟩ = (xs ≠ [] ∧ @nx (.bool p) H ⟨K⟩) := (rfl)
theorem zt6 : @opK P (.eqn p) H [.ref g v off len, .nilS] ⟨K⟩ = (0 < len ∧ @nx (.bool p) H ⟨K⟩) := (rfl)
theorem K_not : @opK P (.un .not) H [.bool p] ⟨K⟩ = @nx (.bool (!p)) H ⟨K⟩ := (rfl)
theorem K_neg : @opK P (.un .neg) H [.int k a] ⟨K⟩ = @nx (.int k (k.wrap (0 - a))) H ⟨K⟩ := (rfl)
theorem y6r {k' : IntKind} : @opK P (.conv k) H [.int k' a] ⟨K⟩ = @nx (.int k (k.wrap a)) H ⟨K⟩ := (rfl)
theorem y2i : @opK P .toStr H [x] ⟨K⟩ = (z5x H 1 x ∧ (match x with | .str _ => False | _ => True) ∧ ∃ bs : List UInt8, z5w H x = some (bs.map fun b => .int .u8 b.toNat) ∧ @nx (.str bs) H ⟨K⟩) := (rfl)
theorem y2j {lo hi mx : Bool} : @opK P (.slice w lo hi mx) H (x :: xs) ⟨K⟩ = @optN _ (optA lo xs) ⟨fun p => @optN _ (optA hi p.2) ⟨fun q => @optN _ (optA mx q.2) ⟨fun r => r.2 = [] ∧ @slcN w x p.1 q.1 r.1 H ⟨K⟩⟩⟩⟩ := (rfl)
theorem zt7 : @opK P (.faddr p off s) H [.cptr x] ⟨K⟩ = (x.isAny = false ∧ off + s ≤ x.cells.length ∧ (p = false → s = 1) ∧ 0 < s ∧ @nx (.cptr (z2d p off s x)) H ⟨K⟩) := (rfl)
theorem zt8 : @opK P (.faddr p off s) H [.ptr g v i o] ⟨K⟩ = ((H.at_ g).ver = v ∧ @nx (.ptr g v i (o + off)) H ⟨K⟩) := (rfl)
theorem y2k : @opK P (.field p off s) H [.agg cs] ⟨K⟩ = (off + s ≤ cs.length ∧ (p = false → s = 1) ∧ @nx (z2d p off s (.agg cs)) H ⟨K⟩) := (rfl)
theorem zt9 {w' : Nat} : @opK P (.iaddr w) H [.lst w' xs, .int k a] ⟨K⟩ = (w' = w ∧ 0 ≤ a ∧ a < xs.length ∧ @nx (.cptr (xs.getD a.toNat .any)) H ⟨K⟩) := (rfl)
theorem zta : @opK P (.iaddr w) H [.ref g v off len, .int k a] ⟨K⟩ = ((H.at_ g).ver = v ∧ (H.at_ g).w = w ∧ 0 ≤ a ∧ a < len ∧ @nx (.ptr g v (off + a.toNat) 0) H ⟨K⟩) := (rfl)
theorem zq3 : @opK P (.iaddrA n w p) H [.ptr g v i o, .int k a] ⟨K⟩ = ((H.at_ g).ver = v ∧ 0 ≤ a ∧ a < n ∧ @nx (.ptr g v i (o + a.toNat * w)) H ⟨K⟩) := (rfl)
theorem zq4 : @opK P (.iaddrA n w p) H [.cptr x, .int k a] ⟨K⟩ = (x.isAny = false ∧ 0 ≤ a ∧ a < n ∧ n * w ≤ x.cells.length ∧ (p = false → w = 1) ∧ 0 < w ∧ @nx (.cptr (z2d p (a.toNat * w) w x)) H ⟨K⟩) := (rfl)
theorem y2l : @opK P (.index n w p) H [.agg cs, .int k a] ⟨K⟩ = (0 ≤ a ∧ a < n ∧ n * w ≤ cs.length ∧ (p = false → w = 1) ∧ @nx (z2d p (a.toNat * w) w (.agg cs)) H ⟨K⟩) := (rfl)
theorem zq5 {s : List UInt8} : @opK P .indexStr H [.str s, .int k a] ⟨K⟩ = (0 ≤ a ∧ a < s.length ∧ @nx (.int .u8 (s.getD a.toNat 0).toNat) H ⟨K⟩) := (rfl)
theorem ztb : @opK P (.extract i) H [.tup xs] ⟨K⟩ = (i < xs.length ∧ @nx (xs.getD i .any) H ⟨K⟩) := (rfl)
theorem ztc : @opK P (.len false) H [.nilS] ⟨K⟩ = @nx (.int .i64 0) H ⟨K⟩ := (rfl)
theorem ztd : @opK P (.len false) H [.nul] ⟨K⟩ = @nx (.int .i64 0) H ⟨K⟩ := (rfl)
theorem zte : @opK P (.len false) H [.lst w xs] ⟨K⟩ = @nx (.int .i64 xs.length) H ⟨K⟩ := (rfl)
theorem ztf : @opK P (.len false) H [.ref g v off len] ⟨K⟩ = @nx (.int .i64 len) H ⟨K⟩ := (rfl)
theorem ztg {s : List UInt8} : @opK P (.len true) H [.str s] ⟨K⟩ = @nx (.int .i64 s.length) H ⟨K⟩ := (rfl)
theorem K_app : @opK P (.app w n z) H [x, y] ⟨K⟩ = (z5x H w y ∧ @optN _ (z5w H y) ⟨fun news => @appN w n x news H ⟨K⟩⟩) := (rfl)
theorem zxt : @appN w n .nilS xs H ⟨K⟩ = (xs.length * n ≤ 140737488355328 ∧ @nx (.ref H.n 1 0 xs.length) (H.push ⟨w, 1, xs.isEmpty, xs⟩) ⟨K⟩) := (rfl)
theorem y2m : @appN w n .nul xs H ⟨K⟩ = (xs.length * n ≤ 140737488355328 ∧ @nx (.ref H.n 1 0 xs.length) (H.push ⟨w, 1, xs.isEmpty, xs⟩) ⟨K⟩) := (rfl)
theorem y2n : @appN w n (.ref g v off len) xs H ⟨K⟩ = ((H.at_ g).ver = v ∧ (H.at_ g).w = w ∧ (len + xs.length) * n ≤ 140737488355328 ∧ off + len ≤ (H.at_ g).xs.length ∧ @ifN (!(H.at_ g).exact || (H.at_ g).xs.isEmpty)
    ⟨(off + len + xs.length ≤ (H.at_ g).xs.length → @nx (.ref g v off (len + xs.length)) (H.set g ⟨w, v, true, (H.at_ g).xs.take (off + len) ++ xs ++ (H.at_ g).xs.drop (off + len + xs.length)⟩) ⟨K⟩) ∧
      ((H.at_ g).xs.length < off + len + xs.length → @nx (.ref H.n 1 0 (len + xs.length)) (H.push ⟨w, 1, false, ((H.at_ g).xs.drop off).take len ++ xs⟩) ⟨K⟩)⟩
    ⟨(off = 0 ∨ off + len = (H.at_ g).xs.length) ∧ (off + len = (H.at_ g).xs.length → @nx (.ref g (v + 1) off (len + xs.length)) (H.set g ⟨w, v + 1, (H.at_ g).exact && xs.isEmpty, (H.at_ g).xs ++ xs⟩) ⟨K⟩) ∧
      (off + len < (H.at_ g).xs.length → off + len + xs.length ≤ (H.at_ g).xs.length ∧ @nx (.ref g v off (len + xs.length)) (H.set g ⟨w, v, (H.at_ g).exact, (H.at_ g).xs.take (off + len) ++ xs ++ (H.at_ g).xs.drop (off + len + xs.length)⟩) ⟨K⟩) ∧
      (off ≠ 0 → @nx (.ref g (v + 1) 0 (len + xs.length)) (H.set g ⟨w, v + 1, (H.at_ g).exact && xs.isEmpty, (H.at_ g).xs.drop off ++ xs⟩) ⟨K⟩)⟩) := by
 simp only [appN, z8q, ifN]
 generalize (!(H.at_ g).exact || (H.at_ g).xs.isEmpty) = c
 cases c <;> rfl
theorem y2o {w' : Nat} {lo hi : Option Int} : @slcN w (.lst w' xs) lo hi none H ⟨K⟩ = (w' = w ∧ 0 ≤ lo.getD 0 ∧ lo.getD 0 ≤ hi.getD xs.length ∧ hi.getD xs.length ≤ xs.length ∧ @nx (.lst w' ((xs.take (hi.getD xs.length).toNat).drop (lo.getD 0).toNat)) H ⟨K⟩) := (rfl)
theorem y2p {lo hi : Option Int} : @slcN w .nilS lo hi none H ⟨K⟩ = ((lo = none ∨ lo = some 0) ∧ (hi = none ∨ hi = some 0) ∧ @nx .nilS H ⟨K⟩) := (rfl)
theorem y2q {lo hi : Option Int} : @slcN w (.ref g v off len) lo hi none H ⟨K⟩ = ((H.at_ g).ver = v ∧ (H.at_ g).w = w ∧ 0 < w ∧ 0 ≤ lo.getD 0 ∧ lo.getD 0 ≤ hi.getD len ∧ (hi.getD len ≤ len ∨ (H.at_ g).exact = true ∧ off + hi.getD len ≤ (H.at_ g).xs.length) ∧
     @nx (.ref g v (off + (lo.getD 0).toNat) ((hi.getD len).toNat - (lo.getD 0).toNat)) H ⟨K⟩) := (rfl)
theorem zxu {w' : Nat} {lo hi : Option Int} {m : Int} : @slcN w (.lst w' xs) lo hi (some m) H ⟨K⟩ = (m = 0 ∧ hi = some 0 ∧ (lo = none ∨ lo = some 0) ∧ @nx .nul H ⟨K⟩) := (rfl)
theorem zxv {lo hi : Option Int} {m : Int} : @slcN w .nilS lo hi (some m) H ⟨K⟩ = (m = 0 ∧ hi = some 0 ∧ (lo = none ∨ lo = some 0) ∧ @nx .nilS H ⟨K⟩) := (rfl)
theorem zxw {lo hi : Option Int} {m : Int} : @slcN w .nul lo hi (some m) H ⟨K⟩ = (m = 0 ∧ hi = some 0 ∧ (lo = none ∨ lo = some 0) ∧ @nx .nul H ⟨K⟩) := (rfl)
theorem zxx {lo hi : Option Int} {m : Int} : @slcN w (.ref g v off len) lo hi (some m) H ⟨K⟩ = (m = 0 ∧ hi = some 0 ∧ (lo = none ∨ lo = some 0) ∧ @nx .nul H ⟨K⟩) := (rfl)
theorem K_max : @opK P .max H [.int k a, .int k b] ⟨K⟩ = @nx (.int k (Max.max a b)) H ⟨K⟩ := by simp [opK, z04, nx]
theorem K_min : @opK P .min H [.int k a, .int k b] ⟨K⟩ = @nx (.int k (Min.min a b)) H ⟨K⟩ := by simp [opK, z04, nx]
theorem zth {k' : IntKind} : @opK P (.mkSlice w n z) H [.int k a, .int k' b] ⟨K⟩ = (0 ≤ a ∧ a ≤ b ∧ b * n ≤ 140737488355328 ∧ @nx (.ref H.n 1 0 a.toNat) (H.push ⟨w, 1, true, List.replicate b.toNat z⟩) ⟨K⟩) := (rfl)
theorem zxy {f : Nat} : @opK P (.mkFunc f) H xs ⟨K⟩ = @nx (.fn f xs) H ⟨K⟩ := (rfl)
theorem y2r : @opK P .mkMap H [] ⟨K⟩ = @nx (.map H.n 1) (H.push ⟨0, 1, true, []⟩) ⟨K⟩ := (rfl)
theorem zxz : @opK P (.mapGet z) H [.map g v, .int k a] ⟨K⟩ = (k = .i64 ∧ (H.at_ g).ver = v ∧ (H.at_ g).w = 0 ∧ (H.at_ g).exact = true ∧ @optN _ (z1v z a (H.at_ g).xs) ⟨fun y => @nx y H ⟨K⟩⟩) := (rfl)
theorem zy0 : @opK P .mapSet H [.map g v, .int k a, x] ⟨K⟩ = (k = .i64 ∧ (H.at_ g).ver = v ∧ (H.at_ g).w = 0 ∧ (H.at_ g).exact = true ∧ @optN _ (setM a x (H.at_ g).xs) ⟨fun ys => @nx .any (H.set g ⟨0, v, true, ys⟩) ⟨K⟩⟩) := (rfl)
theorem zq6 : @opK P (.len false) H [.full w xs] ⟨K⟩ = @nx (.int .i64 xs.length) H ⟨K⟩ := (rfl)
theorem zti {w' : Nat} : @opK P (.iaddr w) H [.full w' xs, .int k a] ⟨K⟩ = (w' = w ∧ 0 ≤ a ∧ a < xs.length ∧ @nx (.cptr (xs.getD a.toNat .any)) H ⟨K⟩) := (rfl)
theorem zq7 : @opK P (.eqn p) H [.full w xs, .nilS] ⟨K⟩ = (xs ≠ [] ∧ @nx (.bool p) H ⟨K⟩) := (rfl)
theorem zy1 {w' : Nat} {lo hi : Option Int} : @slcN w (.full w' xs) lo hi none H ⟨K⟩ = (w' = w ∧ 0 ≤ lo.getD 0 ∧ lo.getD 0 ≤ hi.getD xs.length ∧ hi.getD xs.length ≤ xs.length ∧ @nx (.lst w' ((xs.take (hi.getD xs.length).toNat).drop (lo.getD 0).toNat)) H ⟨K⟩) := (rfl)
theorem ztj {w' : Nat} {lo hi : Option Int} {m : Int} : @slcN w (.full w' xs) lo hi (some m) H ⟨K⟩ = (m = 0 ∧ hi = some 0 ∧ (lo = none ∨ lo = some 0) ∧ @nx .nul H ⟨K⟩) := (rfl)
theorem zy2 {w' : Nat} : @appN w n (.full w' xs) ys H ⟨K⟩ = (w' = w ∧ 0 < ys.length ∧ (xs.length + ys.length) * n ≤ 140737488355328 ∧ @nx (.ref H.n 1 0 (xs.length + ys.length)) (H.push ⟨w, 1, false, xs ++ ys⟩) ⟨K⟩) := (rfl)
theorem ztk : z1v z a [] = some z := rfl
theorem zq8 : z1v z a (.int .i64 b :: y :: xs) = if b = a then some y else z1v z a xs := rfl
theorem zy3 : setM a x [] = some [.int .i64 a, x] := rfl
theorem ztl : setM a x (.int .i64 b :: y :: xs) = if b = a then some (.int .i64 b :: x :: xs) else (setM a x xs).map fun r' => .int .i64 b :: y :: r' := rfl
theorem y6s {f : Nat} : @opK P .call H (.fn f cs :: xs) ⟨K⟩ = @zlh P f (xs ++ cs) H ⟨K⟩ := (rfl)
end
section
variable {P : Program} {H : z02} {K : AV → Prop} {xs cs : List AV} {z : AV} {w len : Nat}
theorem z2l {k : AK} (h : k.still = true) : @opQ P k H xs ⟨K⟩ = @opK P k H xs ⟨fun x _ => K x⟩ := by
 cases k <;> first | (exact propext ⟨fun h => h.2, fun h => ⟨rfl, h⟩⟩) | (simp [AK.still] at h)
theorem Q_mv  : @opQ P .mv H xs ⟨K⟩ = @opK P .mv H xs ⟨fun x _ => K x⟩ := z2l rfl
theorem y6t  : @opQ P .pick H xs ⟨K⟩ = @opK P .pick H xs ⟨fun x _ => K x⟩ := z2l rfl
theorem y2s {zs : List AV} {pl : List (Nat × Nat)} {idx : List Nat} : @opQ P (.build zs pl idx) H xs ⟨K⟩ = @opK P (.build zs pl idx) H xs ⟨fun x _ => K x⟩ := z2l rfl
theorem y6u {a : Bool} {s : Nat} : @opQ P (.load a s) H xs ⟨K⟩ = @opK P (.load a s) H xs ⟨fun x _ => K x⟩ := z2l rfl
theorem zq9  : @opQ P .nilCheck H xs ⟨K⟩ = @opK P .nilCheck H xs ⟨fun x _ => K x⟩ := z2l rfl
theorem Q_bin {op : BinOp} : @opQ P (.bin op) H xs ⟨K⟩ = @opK P (.bin op) H xs ⟨fun x _ => K x⟩ := z2l rfl
theorem Q_eqb {n : Bool} : @opQ P (.eqb n) H xs ⟨K⟩ = @opK P (.eqb n) H xs ⟨fun x _ => K x⟩ := z2l rfl
theorem Q_eqs {n : Bool} {ks : List Nat} : @opQ P (.eqs n ks) H xs ⟨K⟩ = @opK P (.eqs n ks) H xs ⟨fun x _ => K x⟩ := z2l rfl
theorem Q_eqn {n : Bool} : @opQ P (.eqn n) H xs ⟨K⟩ = @opK P (.eqn n) H xs ⟨fun x _ => K x⟩ := z2l rfl
theorem Q_un {op : UnOp} : @opQ P (.un op) H xs ⟨K⟩ = @opK P (.un op) H xs ⟨fun x _ => K x⟩ := z2l rfl
theorem y6v {k : IntKind} : @opQ P (.conv k) H xs ⟨K⟩ = @opK P (.conv k) H xs ⟨fun x _ => K x⟩ := z2l rfl
theorem y2t {w : Nat} {lo hi mx : Bool} : @opQ P (.slice w lo hi mx) H xs ⟨K⟩ = @opK P (.slice w lo hi mx) H xs ⟨fun x _ => K x⟩ := z2l rfl
theorem y2u {a : Bool} {o s : Nat} : @opQ P (.faddr a o s) H xs ⟨K⟩ = @opK P (.faddr a o s) H xs ⟨fun x _ => K x⟩ := z2l rfl
theorem y2v {a : Bool} {o s : Nat} : @opQ P (.field a o s) H xs ⟨K⟩ = @opK P (.field a o s) H xs ⟨fun x _ => K x⟩ := z2l rfl
theorem y2w {w : Nat} : @opQ P (.iaddr w) H xs ⟨K⟩ = @opK P (.iaddr w) H xs ⟨fun x _ => K x⟩ := z2l rfl
theorem zy4 {n w : Nat} {a : Bool} : @opQ P (.iaddrA n w a) H xs ⟨K⟩ = @opK P (.iaddrA n w a) H xs ⟨fun x _ => K x⟩ := z2l rfl
theorem y2x {n w : Nat} {a : Bool} : @opQ P (.index n w a) H xs ⟨K⟩ = @opK P (.index n w a) H xs ⟨fun x _ => K x⟩ := z2l rfl
theorem zqa  : @opQ P .indexStr H xs ⟨K⟩ = @opK P .indexStr H xs ⟨fun x _ => K x⟩ := z2l rfl
theorem ztm {i : Nat} : @opQ P (.extract i) H xs ⟨K⟩ = @opK P (.extract i) H xs ⟨fun x _ => K x⟩ := z2l rfl
theorem Q_len {b : Bool} : @opQ P (.len b) H xs ⟨K⟩ = @opK P (.len b) H xs ⟨fun x _ => K x⟩ := z2l rfl
theorem Q_max  : @opQ P .max H xs ⟨K⟩ = @opK P .max H xs ⟨fun x _ => K x⟩ := z2l rfl
theorem Q_min  : @opQ P .min H xs ⟨K⟩ = @opK P .min H xs ⟨fun x _ => K x⟩ := z2l rfl
theorem zy5 : @opQ P (.mapGet z) H xs ⟨K⟩ = @opK P (.mapGet z) H xs ⟨fun x _ => K x⟩ := z2l rfl
theorem zy6 {f : Nat} : @opQ P (.mkFunc f) H xs ⟨K⟩ = @opK P (.mkFunc f) H xs ⟨fun x _ => K x⟩ := z2l rfl
theorem y2y  : @opQ P .toStr H xs ⟨K⟩ = @opK P .toStr H xs ⟨fun x _ => K x⟩ := z2l rfl
theorem y2z {f : Nat} : @opQ P .call H (.fn f cs :: xs) ⟨K⟩ = @zxm P f (xs ++ cs) H ⟨K⟩ := (rfl)
theorem Q_bsl {idx : List Nat} : @opQ P (.bslice w len z idx) H xs ⟨K⟩ = (z64 w len idx xs ∧ 0 < w ∧ z0h (z3n idx xs (List.replicate len z)) = true ∧ @nq (.full w (z3n idx xs (List.replicate len z))) ⟨K⟩) := (rfl)
end
section
variable {H : z02} {G : Grp} {g j : Nat}
end
section
variable {P : Program} {H : z02} {env : Env} {K : List AV → Prop} {l : List ARes} {t s : Nat} {a : Bool}
theorem y30 : resK P [] env H K = K [] := (rfl)
theorem zy7 : resK P (.slot t :: l) env H K = resK P l env H fun xs => K (env t :: xs) := (rfl)
theorem zy8 : resK P (.cell t a s :: l) env H K = @opK P (.load a s) H [env t] ⟨fun x _ => resK P l env H fun xs => K (x :: xs)⟩ := (rfl)
end
theorem y15 {p : Prop} [Decidable p] (h : p) : true = decide p := (decide_eq_true h).symm
theorem y16 {p : Prop} [Decidable p] (h : ¬p) : false = decide p := (decide_eq_false h).symm
theorem zlj {p q : Prop} [Decidable p] [Decidable q] (h : p ↔ q) : decide p = decide q := decide_eq_decide.2 h
theorem getD_map {α : Type} [Inhabited α] (f : α → AV) (l : List α) (i : Nat) : (l.map f).getD i .any = if i < l.length then f (l.getD i default) else .any := by
 by_cases h : i < l.length <;> simp [List.getD, h]
def nth {α : Type} [Inhabited α] (l : List α) (i : Nat) : α := l.getD i default
theorem ztn {α : Type} [Inhabited α] (f : α → AV) (l : List α) (i : Nat) (h : i < l.length) : (l.map f).getD i .any = f (nth l i) := by rw [getD_map, if_pos h]; rfl
theorem zy9 {α : Type} (f : α → AV) (l : List α) (i : Nat) : (l.map f).drop i = (l.drop i).map f := List.map_drop.symm
theorem zya {α : Type} (f : α → AV) (l : List α) (i : Nat) : (l.map f).take i = (l.take i).map f := List.map_take.symm
theorem z3j {α : Type} {f : α → AV} (h : ∀ x, (f x).pure = true) : ∀ l : List α, z0h (l.map f) = true
 | [] => rfl
 | x :: l => by simp [z0h, h x, z3j h l]
theorem z3c (k : IntKind) (l : List Int) : z0h (l.map (AV.int k)) = true := z3j (fun _ => rfl) l
theorem zto (k : IntKind) (l : List Int) : z0h (l.map fun x => AV.int k x) = true := z3j (fun _ => rfl) l
theorem ztp (l : List Bool) : z0h (l.map AV.bool) = true := z3j (fun _ => rfl) l
attribute [push_cast] z34 z35 z36 y2r zxz zy0 zq6 zti zq7 zy1 ztj zy2 ztk zq8 zy3 ztl zy5
attribute [push_cast] y2d y2e zt2 zxo zt3 zxt y2m y2n y2o y2p y2q zxu zxv zxw zxx K_mv y6l y2f K_box y2g zxp zxq zxr y2h y6m y6n y6o K_add K_sub K_mul K_quo K_rem K_and K_or K_xor zxs K_shl K_shr K_eql K_neq K_lss K_leq K_gtr K_geq y6p y6q K_eqb K_eqs zt4 zt5 zt6 K_not K_neg y6r y2i y2j zt7 zt8 y2k zt9 zta zq3 zq4 y2l zq5 ztb ztc ztd zte ztf ztg K_app K_max K_min zth zxy y6s Q_mv y6t y2s y6u zq9 Q_bin Q_eqb Q_eqs Q_eqn Q_un y6v y2t y2u y2v y2w zy4 y2x zqa ztm Q_len Q_max Q_min zy6 y2y y2z Q_bsl
attribute [push_cast] z21 z22 z23 z24 z25 z26 z27 zxj
attribute [push_cast] z2d AV.cells AV.isAny z4t AV.one z8p eqL eq1 z5x z5w z64 z3n zgg optA List.replicate z0h AV.pure Ret y30 zy7 zy8 resV zy9 zya z3c zto ztp
def pos : List Nat → Nat → Option Nat
 | [], _ => none
 | k :: ks, g => if g = k then some 0 else (pos ks g).map (· + 1)
theorem zc0 : ∀ {ks : List Nat} {g j : Nat}, pos ks g = some j → j < ks.length ∧ ks.getD j 0 = g
 | [], g, j, h => by simp [pos] at h
 | k :: ks, g, j, h => by
   rw [pos] at h
   split at h
   · rename_i hk; cases h; exact ⟨by simp, by simp [hk]⟩
   · obtain ⟨i, hi, rfl⟩ := Option.map_eq_some_iff.1 h
     obtain ⟨h1, h2⟩ := zc0 hi
     exact ⟨by simp; omega, by simpa using h2⟩
theorem zgy : ∀ {ks : List Nat} {g : Nat}, pos ks g = none → g ∉ ks
 | [], g, _ => by simp
 | k :: ks, g, h => by
   rw [pos] at h
   split at h
   · cases h
   · rename_i hk
     have := zgy (Option.map_eq_none_iff.1 h)
     simp [hk, this]
def frzL (w : Nat) (ys : List AV) : AV := bif z0h ys then .lst w ys else .any
def frzP (y : AV) : AV := bif y.pure then .cptr y else .any
def rnV (b : Nat) (H : z02) (ks : List Nat) : Nat → AV → AV
 | 0, x => bif x.pure then x else .any
 | d + 1, .ref g v off len => if g < b then .ref g v off len else if v = (H.at_ g).ver then
     (match pos ks g with
      | some j => .ref (b + j) 1 off len
      | none => if 0 < (H.at_ g).w ∧ off + len ≤ (H.at_ g).xs.length then frzL (H.at_ g).w ((((H.at_ g).xs.drop off).take len).map (rnV b H ks d)) else .any)
     else .any
 | d + 1, .ptr g v i o => if g < b then .ptr g v i o else if v = (H.at_ g).ver then
     (match pos ks g with
      | some j => .ptr (b + j) 1 i o
      | none => if o = 0 ∧ i < (H.at_ g).xs.length ∧ 0 < (H.at_ g).w then frzP (rnV b H ks d ((H.at_ g).xs.getD i .any)) else .any)
     else .any
 | _ + 1, .map g v => if g < b then .map g v else if v = (H.at_ g).ver then (match pos ks g with | some j => .map (b + j) 1 | none => .any) else .any
 | d + 1, .agg cs => .agg (cs.map (rnV b H ks d))
 | d + 1, .tup cs => .tup (cs.map (rnV b H ks d))
 | d + 1, .fn f cs => .fn f (cs.map (rnV b H ks d))
 | _ + 1, x => x
def inv (b : Nat) (ks : List Nat) (j : Nat) : Nat := if j < b then j else ks.getD (j - b) 0
def MS.repack (S : MS) (b : Nat) (H : z02) (ks : List Nat) : MS where
 w := S.w
 im := fun c => S.im c ∨ ∃ g, g < H.n ∧ b ≤ g ∧ g ∉ ks ∧ 0 < (H.at_ g).w ∧ 0 < S.cap g ∧ c = S.place g
 keep := S.keep
 n := b + ks.length
 place := fun j => S.place (inv b ks j)
 cur := fun j => if j < b then S.cur j else 1
 cap := fun j => S.cap (inv b ks j)
 wid := fun j => S.wid (inv b ks j)
 base := S.base
def z02.repack (H : z02) (b : Nat) (ks : List Nat) (d : Nat) : z02 := ⟨b + ks.length, fun j => ⟨(H.at_ (inv b ks j)).w, if j < b then (H.at_ j).ver else 1, (H.at_ (inv b ks j)).exact, (H.at_ (inv b ks j)).xs.map (rnV b H ks d)⟩⟩
section
variable {S : MS} {H : z02} {b : Nat} {ks : List Nat}
theorem z4c {j : Nat} (h : j < b) : inv b ks j = j := if_pos h
theorem zlk {j : Nat} : inv b ks (b + j) = ks.getD j 0 := by
 have h1 : b + j - b = j := by omega
 have h2 : ¬ b + j < b := by omega
 rw [inv, if_neg h2, h1]
theorem zgz {x : AV} {v : Value} (hx : x.pure = true) (h : VRel S x v) : VRel (S.repack b H ks) x v := VRel.of_pure (S := S) (S' := S.repack b H ks) rfl (fun _ hb => .inl hb) hx h
theorem zqb (hS : SRel S H) : ∀ (d : Nat) {x : AV} {v : Value}, VRel S x v → VRel (S.repack b H ks) (rnV b H ks d x) v
 | 0, x, v, h => by
   rw [rnV]
   cases hp : x.pure
   · trivial
   · exact zgz hp h
 | d + 1, x, v, h => by
   have keyL : ∀ {cs : List AV} {vs : List Value}, z03 S cs vs → z03 (S.repack b H ks) (cs.map (rnV b H ks d)) vs := by
     intro cs
     induction cs with
     | nil => intro vs hh; exact hh
     | cons c cs ih =>
       intro vs hh
       obtain ⟨u, r, rfl, h1, h2⟩ := hh
       exact ⟨u, r, rfl, zqb hS d h1, ih h2⟩
   cases x with
   | ref g vn off len =>
     obtain ⟨⟨a, c, rfl, ha⟩, hg, hvn, hcur⟩ := h
     have hG := hS.live_of hg
     rw [rnV]
     split
     · rename_i hgb
       refine ⟨⟨a, c, rfl, ha⟩, by show g < b + _; omega, by show vn ≤ if g < b then _ else _; rw [if_pos hgb]; exact hvn, fun he => ?_⟩
       have he' : (if g < b then S.cur g else 1) = vn := he
       rw [if_pos hgb] at he'
       show ∃ a cap', _ = Value.slice a len cap' ∧ ((a = some ⟨S.place (inv b ks g), off * S.wid (inv b ks g), none⟩ ∧ cap' = S.cap (inv b ks g) - off ∧ off + len ≤ S.cap (inv b ks g)) ∨ (len = 0 ∧ cap' = 0 ∧ S.cap (inv b ks g) ≤ off))
       rw [z4c hgb]
       exact hcur he'
     · split
       · rename_i hver
         have hh := hcur (by rw [hG.ver, hver])
         split
         · rename_i j hj
           obtain ⟨h1, h2⟩ := zc0 hj
           refine ⟨⟨a, c, rfl, ha⟩, by show b + j < b + _; omega, by show 1 ≤ if b + j < b then _ else 1; rw [if_neg (by omega)]; exact Nat.le_refl 1, fun _ => ?_⟩
           show ∃ a cap', _ = Value.slice a len cap' ∧ ((a = some ⟨S.place (inv b ks (b + j)), off * S.wid (inv b ks (b + j)), none⟩ ∧ cap' = S.cap (inv b ks (b + j)) - off ∧ off + len ≤ S.cap (inv b ks (b + j))) ∨ (len = 0 ∧ cap' = 0 ∧ S.cap (inv b ks (b + j)) ≤ off))
           rw [zlk, h2]
           exact hh
         · rename_i hb hj
           have hnk := zgy hj
           split
           · rename_i hw
             obtain ⟨hw, hol⟩ := hw
             unfold frzL
             cases hpu : z0h ((((H.at_ g).xs.drop off).take len).map (rnV b H ks d))
             · trivial
             · obtain ⟨a', cap', hv, hcase⟩ := hh
               obtain ⟨rfl, -, rfl⟩ : a = a' ∧ len = len ∧ c = cap' := by cases hv; exact ⟨rfl, rfl, rfl⟩
               have hl : ((((H.at_ g).xs.drop off).take len).map (rnV b H ks d)).length = len := by simp; omega
               show VRel _ (.lst _ _) _
               have hnone : a = none → c = 0 := fun hn => by
                 rcases hcase with ⟨rfl, _⟩ | ⟨_, hh, _⟩
                 · cases hn
                 · exact hh
               by_cases hc0 : S.cap g = 0
               · have hlen := hG.len hw
                 have hnil : ((H.at_ g).xs.drop off).take len = [] := List.eq_nil_of_length_eq_zero (by simp; omega)
                 simp only [hnil, List.map_nil] at hl ⊢
                 exact ⟨rfl, hw, a, c, [], by rw [← hl], ⟨Nat.zero_le _, hnone⟩, rfl, fun hne => absurd rfl hne⟩
               obtain ⟨⟨cells, TT, us, hb2, hcs, hus, hfl⟩, _⟩ := hG.live hw (by omega)
               refine ⟨hpu, hw, a, c, _, by rw [hl], ⟨?_, hnone⟩, keyL ((hus.drop off).take len), fun hne => ?_⟩
               · rw [hl]; rcases hcase with ⟨_, c2, c3⟩ | ⟨c1, c2, _⟩ <;> omega
               · rcases hcase with ⟨rfl, _, _⟩ | ⟨c1, _, _⟩
                 · refine ⟨_, _, rfl, .inr ⟨g, by rw [← hS.n]; exact hg, by omega, hnk, hw, by omega, rfl⟩, fun j u hu => ?_⟩
                   rw [List.getElem?_take] at hu
                   split at hu
                   · rw [List.getElem?_drop] at hu
                     have := hfl.row hb2 (off + j) u hu
                     rw [Nat.zero_add, Nat.add_mul] at this
                     rw [hG.wid]
                     exact this
                   · cases hu
                 · exact absurd (List.eq_nil_of_length_eq_zero (by rw [hl]; exact c1)) hne
           · trivial
       · trivial
   | ptr g vn i o =>
     obtain ⟨⟨a, rfl⟩, hg, hvn, hcur⟩ := h
     have hG := hS.live_of hg
     rw [rnV]
     split
     · rename_i hgb
       refine ⟨⟨a, rfl⟩, by show g < b + _; omega, by show vn ≤ if g < b then _ else _; rw [if_pos hgb]; exact hvn, fun he => ?_⟩
       have he' : (if g < b then S.cur g else 1) = vn := he
       rw [if_pos hgb] at he'
       show _ = Value.pointer (some ⟨S.place (inv b ks g), i * S.wid (inv b ks g) + o, none⟩)
       rw [z4c hgb]
       exact hcur he'
     · split
       · rename_i hver
         have hh := hcur (by rw [hG.ver, hver])
         split
         · rename_i j hj
           obtain ⟨h1, h2⟩ := zc0 hj
           refine ⟨⟨a, rfl⟩, by show b + j < b + _; omega, by show 1 ≤ if b + j < b then _ else 1; rw [if_neg (by omega)]; exact Nat.le_refl 1, fun _ => ?_⟩
           show _ = Value.pointer (some ⟨S.place (inv b ks (b + j)), i * S.wid (inv b ks (b + j)) + o, none⟩)
           rw [zlk, h2]
           exact hh
         · rename_i hb hj
           have hnk := zgy hj
           split
           · rename_i hc
             obtain ⟨rfl, hi, hw⟩ := hc
             unfold frzP
             cases hpu : (rnV b H ks d ((H.at_ g).xs.getD i .any)).pure
             · trivial
             · show VRel _ (.cptr _) _
               obtain ⟨u, hu, hl⟩ := hG.elem hw hi
               have k1 := zqb hS d hu
               refine ⟨hpu, S.place g, i * (H.at_ g).w, u, ?_, .inr ⟨g, by rw [← hS.n]; exact hg, by omega, hnk, hw, by have := hG.len hw; omega, rfl⟩, k1, ?_⟩
               · rw [hh, hG.wid]; rfl
               · rw [hl.1]; exact hl
           · trivial
       · trivial
   | agg cs => obtain ⟨vs, rfl, hr⟩ := h; exact ⟨vs, rfl, keyL hr⟩
   | tup cs => obtain ⟨vs, rfl, hr⟩ := h; exact ⟨vs, rfl, keyL hr⟩
   | fn f cs => obtain ⟨vs, rfl, hr⟩ := h; exact ⟨vs, rfl, keyL hr⟩
   | full w xs => exact zgz h.1 h
   | map g vn =>
     obtain ⟨⟨a, rfl⟩, hg, hvn, hcur⟩ := h
     have hG := hS.live_of hg
     rw [rnV]
     split
     · rename_i hgb
       refine ⟨⟨a, rfl⟩, by show g < b + _; omega, by show vn ≤ if g < b then _ else _; rw [if_pos hgb]; exact hvn, fun he => ?_⟩
       have he' : (if g < b then S.cur g else 1) = vn := he
       rw [if_pos hgb] at he'
       show _ = Value.map (some (S.place (inv b ks g)))
       rw [z4c hgb]
       exact hcur he'
     · split
       · rename_i hver
         have hh := hcur (by rw [hG.ver, hver])
         split
         · rename_i j hj
           obtain ⟨h1, h2⟩ := zc0 hj
           refine ⟨⟨a, rfl⟩, by show b + j < b + _; omega, by show 1 ≤ if b + j < b then _ else 1; rw [if_neg (by omega)]; exact Nat.le_refl 1, fun _ => ?_⟩
           show _ = Value.map (some (S.place (inv b ks (b + j))))
           rw [zlk, h2]
           exact hh
         · trivial
       · trivial
   | lst w xs => exact zgz h.1 h
   | cptr x => exact zgz h.1 h
   | any => trivial
   | bool _ => exact h
   | int _ _ => exact h
   | str _ => exact h
   | nilS => exact h
   | nul => exact h
   | emp => exact h
   | nilP => exact h
   | nilF => exact h
   | yld l => exact h
theorem z7x (hS : SRel S H) (hb : b ≤ S.n) : BEvo b S (S.repack b H ks) where
 base := rfl
 os := rfl
 tape := rfl
 output := rfl
 size := Nat.le_refl _
 kept _ _ := rfl
 im _ h := .inl h
 keep _ h := h
 fresh c hc := by
   rcases hc with hc | ⟨g, hg, _, _, hw, hcap, rfl⟩
   · exact .inl hc
   · exact .inr fun hk => ((hS.grp g hg).live hw hcap).2 (.inr hk)
 n := Nat.le_add_right _ _
 cur g hg := by show _ ≤ if g < b then S.cur g else 1; rw [if_pos hg]; exact Nat.le_refl _
 same g hg _ := by
   show S.place (inv b ks g) = _ ∧ S.cap (inv b ks g) = _ ∧ S.wid (inv b ks g) = _
   rw [z4c hg]; exact ⟨rfl, rfl, rfl⟩
theorem zad (d : Nat) (hS : SRel S H) (hb : b ≤ H.n) (hk : ∀ k ∈ ks, b ≤ k ∧ k < H.n) (hn : ks.Nodup) : SRel (S.repack b H ks) (H.repack b ks d) := by
 have keyL : ∀ {cs : List AV} {vs : List Value}, z03 S cs vs → z03 (S.repack b H ks) (cs.map (rnV b H ks d)) vs := by
   intro cs
   induction cs with
   | nil => intro vs hh; exact hh
   | cons c cs ih =>
     intro vs hh
     obtain ⟨u, r, rfl, h1, h2⟩ := hh
     exact ⟨u, r, rfl, zqb hS d h1, ih h2⟩
 have hinv : ∀ j, j < b + ks.length → inv b ks j < H.n ∧ (j < b ∨ b ≤ inv b ks j ∧ inv b ks j ∈ ks) := by
   intro j hj
   by_cases hjb : j < b
   · rw [z4c hjb]; exact ⟨by omega, .inl hjb⟩
   · have h1 : j - b < ks.length := by omega
     have : inv b ks j = ks[j - b] := by simp [inv, hjb, List.getD, List.getElem?_eq_getElem h1]
     rw [this]
     have := hk _ (List.getElem_mem h1)
     exact ⟨this.2, .inr ⟨this.1, List.getElem_mem h1⟩⟩
 refine ⟨rfl, fun j hj => ?_, fun j j' hj hj' hne hw hw' => ?_, fun c hc => ?_⟩
 · obtain ⟨h1, h2⟩ := hinv j hj
   have hG := hS.grp _ h1
   have hni : (H.at_ (inv b ks j)).has (S.cap (inv b ks j)) → ¬ ((S.repack b H ks).im (S.place (inv b ks j)) ∨ (S.repack b H ks).keep (S.place (inv b ks j))) := fun hq => by
     have a5 := hG.has_ni hq
     rintro ((hi | ⟨g, hg, hbg, hnk, hw', hc', he⟩) | hi)
     · exact a5 (.inl hi)
     · have hne : inv b ks j ≠ g := by
         intro hh
         rcases h2 with h2 | h2
         · rw [z4c h2] at hh; omega
         · exact hnk (hh ▸ h2.2)
       exact hS.apart _ g h1 hg hne hq (.inl ⟨hw', hc'⟩) he
     · exact a5 (.inr hi)
   refine ⟨?_, hG.wid, fun hw hc => ?_, fun hw => ?_, fun hw he => ?_, fun hw he => ?_⟩
   · show (if j < b then S.cur j else 1) = if j < b then (H.at_ j).ver else 1
     split
     · rename_i hjb; rw [z4c hjb] at hG; exact hG.ver
     · rfl
   · obtain ⟨⟨cells, TT, us, a1, a2, a3, a4⟩, a5⟩ := hG.live hw hc
     exact ⟨⟨cells, TT, us, a1, a2, keyL a3, a4⟩, hni (.inl ⟨hw, hc⟩)⟩
   · show ((H.at_ (inv b ks j)).xs.map _).length ≤ _; rw [List.length_map]; exact hG.len hw
   · show ((H.at_ (inv b ks j)).xs.map _).length = _; rw [List.length_map]; exact hG.full hw he
   · obtain ⟨⟨es, clock, a1, a2⟩, a5⟩ := hG.mlive hw he
     exact ⟨⟨es, clock, a1, keyL a2⟩, hni (.inr ⟨hw, he⟩)⟩
 · obtain ⟨h1, h2⟩ := hinv j hj
   obtain ⟨h1', h2'⟩ := hinv j' hj'
   refine hS.apart _ _ h1 h1' ?_ hw hw'
   intro hh
   rcases h2 with h2 | ⟨h2, h3⟩ <;> rcases h2' with h2' | ⟨h2', h3'⟩
   · rw [z4c h2, z4c h2'] at hh; exact hne hh
   · rw [z4c h2] at hh; omega
   · rw [z4c h2'] at hh; omega
   · have hjb : ¬ j < b := fun h => by rw [z4c h] at h2; omega
     have hjb' : ¬ j' < b := fun h => by rw [z4c h] at h2'; omega
     have e1 : j - b < ks.length := by have : j < b + ks.length := hj; omega
     have e2 : j' - b < ks.length := by have : j' < b + ks.length := hj'; omega
     have f1 : inv b ks j = ks[j - b] := by simp [inv, hjb, List.getD, List.getElem?_eq_getElem e1]
     have f2 : inv b ks j' = ks[j' - b] := by simp [inv, hjb', List.getD, List.getElem?_eq_getElem e2]
     rw [f1, f2] at hh
     have := (List.getElem_inj hn).1 hh
     omega
 · rcases hc with (hc | ⟨g, hg, _, _, hw, hcap, rfl⟩) | hc
   · exact hS.im c (.inl hc)
   · exact (hS.grp g hg).lt hw hcap
   · exact hS.im c (.inr hc)
theorem zyb {P : Program} {n : Nat} {c : AC} {env : Env} {Q : Ex → Env → z02 → Prop} (ks : List Nat) (d : Nat) (hb : b ≤ H.n) (hk : ∀ k ∈ ks, b ≤ k ∧ k < H.n) (hn : ks.Nodup)
   (h : T P n b c (fun i => rnV b H ks d (env i)) (H.repack b ks d) Q) : T P n b c env H Q := by
 intro rd mm hrd code hc S a hbS hS hF
 have hev := z7x (ks := ks) hS hbS
 refine wpIn_mono (h rd mm hrd code hc (S.repack b H ks) a (Nat.le_add_right _ _) (zad d hS hb hk hn) ⟨hF.size, hF.defers.of hev.base hev.size hev.keep hev.fresh (fun b hb => hev.kept b (.inr hb)), fun j hj => zqb hS d (hF.val j hj)⟩) fun e a w hh => hh.trans (z7x hS hbS)
end
theorem znv : z02.nil = hl [] := by
 simp [z02.nil, hl]
theorem hl_n (l : List Grp) : (hl l).n = l.length := rfl
theorem SRel.congr {S : MS} {H H' : z02} (hn : H'.n = H.n) (h : ∀ g, g < H.n → H'.at_ g = H.at_ g) (hS : SRel S H) : SRel S H' :=
 ⟨hS.n.trans hn.symm, fun g hg => by rw [h g (by omega)]; exact hS.grp g (by omega), fun g g' hg hg' hne hw hw' => by
   rw [h g (by omega)] at hw
   rw [h g' (by omega)] at hw'
   exact hS.apart g g' (by omega) (by omega) hne hw hw', hS.im⟩
theorem z1f.congr {P : Program} {f : Nat} {xs : List AV} {H H' : z02} {K : AV → z02 → Prop} (hn : H'.n = H.n) (h : ∀ g, g < H.n → H'.at_ g = H.at_ g) (k : z1f P f xs H' K) : z1f P f xs H K :=
 ⟨k.1, fun S cargs hS hx => k.2 S cargs (hS.congr hn h) hx⟩
def z02.groups (H : z02) : List Grp := (List.range H.n).map H.at_
theorem ziz (l : List Grp) : (hl l).groups = l := by
 refine List.ext_getElem (by simp [z02.groups, hl]) fun i h1 h2 => ?_
 simp [z02.groups, hl, h2]
def z67 : Nat → List Nat → List Grp → List Grp
 | _, _, [] => []
 | i, ks, G :: l => (if i ∈ ks then G.dead else G) :: z67 (i + 1) ks l
theorem z9i : ∀ (i : Nat) (ks : List Nat) (l : List Grp), (z67 i ks l).length = l.length
 | _, _, [] => rfl
 | i, ks, G :: l => by simp [z67, z9i (i + 1) ks l]
theorem zh0 : ∀ (i : Nat) (ks : List Nat) (l : List Grp) (g : Nat), g < l.length → (z67 i ks l).getD g default = if i + g ∈ ks then (l.getD g default).dead else l.getD g default
 | _, _, [], g, h => by simp at h
 | i, ks, G :: l, 0, h => by simp [z67]
 | i, ks, G :: l, g + 1, h => by
   have := zh0 (i + 1) ks l g (by simpa using h)
   have e : i + 1 + g = i + (g + 1) := by omega
   rw [e] at this
   simpa [z67] using this
theorem zf6 {P : Program} {f : Nat} {xs : List AV} {l : List Grp} {K : AV → z02 → Prop} (d : Nat) (ks : List Nat) (hok : ∀ x ∈ xs, z2j d ((hl l).only ks) x) (h : z1f P f (xs.map (frzV d ((hl l).only ks))) (hl (z67 0 ks l)) K) : z1f P f xs (hl l) K := by
 refine zgx d ks hok (z1f.congr (H' := hl (z67 0 ks l)) (by simp [hl, z02.kill, z9i]) (fun g hg => ?_) h)
 show (z67 0 ks l).getD g default = if g ∈ ks then (l.getD g default).dead else l.getD g default
 rw [zh0 0 ks l g hg, Nat.zero_add]
def leH (H : z02) (x y : AV) : Prop := ∀ S v, SRel S H → VRel S x v → VRel S y v
section
variable {H : z02}
theorem ztq {l : List Grp} {g v len : Nat} (hv : (l.getD g default).ver = v) (hw : 0 < (l.getD g default).w) (hx : (l.getD g default).xs = []) (he : (l.getD g default).exact = true) (hg : g < l.length) (h0 : len = 0) : leH (hl l) .nilS (.ref g v 0 len) := fun S u hS hu => by
 subst h0
 have hG := hS.grp g hg
 rw [z2g] at hG
 have hf := hG.full hw he
 rw [hx] at hf
 have hc : S.cap g = 0 := hf.symm
 have hu' : u = .slice none 0 0 := hu
 subst hu'
 exact ⟨⟨none, 0, rfl, fun _ => rfl⟩, by rw [hS.n]; exact hg, by rw [hG.ver, hv]; exact Nat.le_refl _, fun _ => ⟨none, 0, rfl, .inr ⟨rfl, rfl, by rw [hc]; exact Nat.le_refl _⟩⟩⟩
end
mutual
def leS (l : List Grp) : AV → AV → Prop
 | .int k a, y => (match y with | .int k' b => k = k' ∧ a = b | .any => True | _ => False)
 | .bool a, y => (match y with | .bool b => a = b | .any => True | _ => False)
 | .nilS, y => (match y with
   | .nilS | .any => True
   | .lst w ys => 0 < w ∧ ys = []
   | .ref g v off len => off = 0 ∧ len = 0 ∧ (l.getD g default).ver = v ∧ 0 < (l.getD g default).w ∧ (l.getD g default).xs = [] ∧ (l.getD g default).exact = true ∧ g < l.length
   | _ => False)
 | .nul, y => (match y with | .nul | .any => True | .lst w ys => 0 < w ∧ ys = [] | _ => False)
 | .emp, y => (match y with | .emp | .any => True | .lst w ys => 0 < w ∧ ys = [] | _ => False)
 | .lst w xs, y => (match y with | .lst w' ys => w = w' ∧ xs = ys | .any => True | _ => False)
 | .full w xs, y => (match y with | .full w' ys => w = w' ∧ xs = ys | .lst w' ys => w = w' ∧ leSL l xs ys ∧ z0h ys = true | .any => True | _ => False)
 | .ref g v o n, y => (match y with | .ref g' v' o' n' => g = g' ∧ v = v' ∧ o = o' ∧ n = n' | .any => True | _ => False)
 | .ptr g v o n, y => (match y with | .ptr g' v' o' n' => g = g' ∧ v = v' ∧ o = o' ∧ n = n' | .any => True | _ => False)
 | .agg xs, y => (match y with | .agg ys => leSL l xs ys | .any => True | _ => False)
 | .tup xs, y => (match y with | .tup ys => leSL l xs ys | .any => True | _ => False)
 | x, y => (match y with | .any => True | y => x = y)
def leSL (l : List Grp) : List AV → List AV → Prop
 | [], ys => ys = []
 | x :: xs, ys => (match ys with | y :: ys => leS l x y ∧ leSL l xs ys | [] => False)
end
mutual
theorem zj0 {S : MS} {l : List Grp} (hS : SRel S (hl l) ∨ l = []) : ∀ (x : AV) {y : AV} {v : Value}, leS l x y → VRel S x v → VRel S y v
 | .any, y, v, h, hv => by cases y <;> simp only [leS, reduceCtorEq] at h; trivial
 | .int k a, y, v, h, hv => by
   cases y <;> simp only [leS] at h
   · trivial
   · obtain ⟨rfl, rfl⟩ := h; exact hv
 | .bool a, y, v, h, hv => by
   cases y <;> simp only [leS] at h
   · trivial
   · subst h; exact hv
 | .str s, y, v, h, hv => by cases y <;> simp only [leS] at h <;> first | trivial | (cases h; done) | (cases h; exact hv)
 | .nilP, y, v, h, hv => by cases y <;> simp only [leS] at h <;> first | trivial | (cases h; done) | exact hv
 | .nilF, y, v, h, hv => by cases y <;> simp only [leS] at h <;> first | trivial | (cases h; done) | exact hv
 | .yld l, y, v, h, hv => by cases y <;> simp only [leS] at h <;> first | trivial | (cases h; done) | (cases h; exact hv)
 | .cptr x, y, v, h, hv => by cases y <;> simp only [leS] at h <;> first | trivial | (cases h; done) | (cases h; exact hv)
 | .fn f xs, y, v, h, hv => by cases y <;> simp only [leS] at h <;> first | trivial | (cases h; done) | (cases h; exact hv)
 | .nilS, y, v, h, hv => by
   cases y <;> simp only [leS] at h
   · trivial
   · exact hv
   · obtain ⟨h1, rfl⟩ := h; exact AV.le_nilS h1 S v hv
   · obtain ⟨rfl, rfl, h1, h2, h3, h4, h5⟩ := h
     rcases hS with hS | rfl
     · exact ztq h1 h2 h3 h4 h5 rfl S v hS hv
     · exact absurd h5 (Nat.not_lt_zero _)
 | .nul, y, v, h, hv => by
   cases y <;> simp only [leS] at h
   · trivial
   · exact hv
   · obtain ⟨h1, rfl⟩ := h; exact AV.le_nul h1 S v hv
 | .emp, y, v, h, hv => by
   cases y <;> simp only [leS] at h
   · trivial
   · exact hv
   · obtain ⟨h1, rfl⟩ := h; exact AV.le_emp h1 S v hv
 | .lst w xs, y, v, h, hv => by
   cases y <;> simp only [leS] at h
   · trivial
   · obtain ⟨rfl, rfl⟩ := h; exact hv
 | .full w xs, y, v, h, hv => by
   cases y <;> simp only [leS] at h
   · trivial
   · rename_i w' ys
     obtain ⟨rfl, h1, hp⟩ := h
     obtain ⟨_, h0, a, cap, vs, hv, hc, hl, hr⟩ := z99 hv
     have hn := z03.length hl
     have hm := z8y hS xs h1 hl
     have hln : ys.length = xs.length := by rw [← z03.length hm, hn]
     exact ⟨hp, h0, a, cap, vs, by rw [hln]; exact hv, by rw [hln]; exact hc, hm, fun hne => hr fun h => hne (by rw [h] at hln; exact List.length_eq_zero_iff.1 hln)⟩
   · obtain ⟨rfl, rfl⟩ := h; exact hv
 | .map g a, y, v, h, hv => by cases y <;> simp only [leS] at h <;> first | trivial | (cases h; done) | (cases h; exact hv)
 | .ref g a o n, y, v, h, hv => by
   cases y <;> simp only [leS] at h
   · trivial
   · obtain ⟨rfl, rfl, rfl, rfl⟩ := h; exact hv
 | .ptr g a o n, y, v, h, hv => by
   cases y <;> simp only [leS] at h
   · trivial
   · obtain ⟨rfl, rfl, rfl, rfl⟩ := h; exact hv
 | .agg xs, y, v, h, hv => by
   cases y <;> simp only [leS] at h
   · trivial
   · obtain ⟨vs, rfl, hr⟩ := hv; exact ⟨vs, rfl, z8y hS xs h hr⟩
 | .tup xs, y, v, h, hv => by
   cases y <;> simp only [leS] at h
   · trivial
   · obtain ⟨vs, rfl, hr⟩ := hv; exact ⟨vs, rfl, z8y hS xs h hr⟩
theorem z8y {S : MS} {l : List Grp} (hS : SRel S (hl l) ∨ l = []) : ∀ (xs : List AV) {ys : List AV} {vs : List Value}, leSL l xs ys → z03 S xs vs → z03 S ys vs
 | [], ys, vs, h, hv => by rw [show ys = [] from h]; exact hv
 | x :: xs, [], vs, h, hv => h.elim
 | x :: xs, y :: ys, vs, h, hv => by
   obtain ⟨v, r, rfl, h1, h2⟩ := hv
   exact ⟨v, r, rfl, zj0 hS x h.1 h1, z8y hS xs h.2 h2⟩
end
theorem znw {l : List Grp} : ∀ {xs ys : List AV}, leSL l xs ys → ys.length = xs.length
 | [], ys, h => by rw [show ys = [] from h]
 | _ :: _, [], h => h.elim
 | _ :: _, _ :: _, h => by simp [znw h.2]
mutual
theorem zc1 (l : List Grp) : ∀ x : AV, leS l x x
 | .any => trivial
 | .int _ _ => ⟨rfl, rfl⟩
 | .bool _ => rfl
 | .str _ => rfl
 | .nilS => trivial
 | .nul => trivial
 | .emp => trivial
 | .lst _ _ => ⟨rfl, rfl⟩
 | .full _ _ => ⟨rfl, rfl⟩
 | .map _ _ => rfl
 | .ref .. => ⟨rfl, rfl, rfl, rfl⟩
 | .ptr .. => ⟨rfl, rfl, rfl, rfl⟩
 | .cptr _ => rfl
 | .nilP => rfl
 | .nilF => rfl
 | .yld _ => rfl
 | .fn .. => rfl
 | .agg xs => z1l l xs
 | .tup xs => z1l l xs
theorem z1l (l : List Grp) : ∀ xs : List AV, leSL l xs xs
 | [] => rfl
 | x :: xs => ⟨zc1 l x, z1l l xs⟩
end
theorem y17 {x y : AV} (h : leS [] x y) : AV.le x y := fun S v hv => zj0 (.inr rfl) x h hv
theorem z8z {xs ys : List AV} (h : leSL [] xs ys) : leL xs ys := fun S v hv => z8y (.inr rfl) xs h hv
def zyc (l : List Grp) (G G' : Grp) : Prop := G.w = G'.w ∧ G.ver = G'.ver ∧ (G'.exact = true → G.exact = true) ∧ leSL l G.xs G'.xs
def z7a (l0 : List Grp) : List Grp → List Grp → Prop
 | [], [] => True
 | G :: l, G' :: l' => zyc l0 G G' ∧ z7a l0 l l'
 | _, _ => False
theorem zae {l0 : List Grp} : ∀ {l l' : List Grp}, z7a l0 l l' → l'.length = l.length
 | [], [], _ => rfl
 | G :: l, G' :: l', h => by simp [zae h.2]
 | [], _ :: _, h => h.elim
 | _ :: _, [], h => h.elim
theorem zcj {l0 : List Grp} : ∀ {l l' : List Grp}, z7a l0 l l' → ∀ g, g < l.length → zyc l0 (l.getD g default) (l'.getD g default)
 | [], [], _, g, hg => by simp at hg
 | G :: l, G' :: l', h, 0, _ => h.1
 | G :: l, G' :: l', h, g + 1, hg => by simpa using zcj h.2 g (by simpa using hg)
 | [], _ :: _, h, _, _ => h.elim
 | _ :: _, [], h, _, _ => h.elim
theorem z7y {S : MS} {l l' : List Grp} (hS : SRel S (hl l)) (h : z7a l l l') : SRel S (hl l') := by
 have hlen := zae h
 refine ⟨hS.n.trans hlen.symm, fun g hg => ?_, fun g g' hg hg' hne hw hw' => ?_, hS.im⟩
 · have hg' : g < l.length := by rw [← hlen]; exact hg
   obtain ⟨h1, h2, h3, h5⟩ := zcj h g hg'
   have h4 : (l.getD g default).xs.length = (l'.getD g default).xs.length := (znw h5).symm
   have hG := hS.grp g hg'
   rw [z2g] at hG ⊢
   refine ⟨by rw [← h2]; exact hG.ver, by rw [← h1]; exact hG.wid, fun hw hc => ?_, fun hw => by rw [← h4]; exact hG.len (by rw [h1]; exact hw), fun hw he => by rw [← h4]; exact hG.full (by rw [h1]; exact hw) (h3 he), fun hw he => ?_⟩
   rotate_left
   · obtain ⟨⟨es, clock, a1, a2⟩, a5⟩ := hG.mlive (by rw [h1]; exact hw) (h3 he)
     exact ⟨⟨es, clock, a1, z8y (.inl hS) _ h5 a2⟩, a5⟩
   obtain ⟨⟨cells, TT, us, a1, a2, a3, a4⟩, a5⟩ := hG.live (by rw [h1]; exact hw) hc
   exact ⟨⟨cells, TT, us, a1, by rw [← h1]; exact a2, z8y (.inl hS) _ h5 a3, by rw [← h1]; exact a4⟩, a5⟩
 · have hg1 : g < l.length := by rw [← hlen]; exact hg
   have hg1' : g' < l.length := by rw [← hlen]; exact hg'
   have key : ∀ g, g < l.length → ((hl l').at_ g).has (S.cap g) → ((hl l).at_ g).has (S.cap g) := fun g hg hh => by
     obtain ⟨k1, _, k3, _⟩ := zcj h g hg
     rw [z2g] at hh ⊢
     rcases hh with ⟨q1, q2⟩ | ⟨q1, q2⟩
     · exact .inl ⟨by rw [k1]; exact q1, q2⟩
     · exact .inr ⟨by rw [k1]; exact q1, k3 q2⟩
   exact hS.apart g g' hg1 hg1' hne (key g hg1 hw) (key g' hg1' hw')
inductive Src where
 | grp (g : Nat)
 | virt (w : Nat)
def z0r (w : Nat) : AV → Src
 | .ref g _ _ _ => .grp g
 | .ptr g _ _ _ => .grp g
 | .map g _ => .grp g
 | _ => .virt w
def cellAt (H : z02) (x : AV) (k : Nat) : AV := match x with
 | .ptr g _ i _ => ((H.at_ g).xs.getD i .any).cells.getD k .any
 | _ => .any
def z47 : Nat → List Src → List Nat × List Nat
 | _, [] => ([], [])
 | N, .grp g :: r => (g :: (z47 N r).1, (z47 N r).2)
 | N, .virt w :: r => (N :: (z47 (N + 1) r).1, w :: (z47 (N + 1) r).2)
def z6z (w : Nat) : Grp := ⟨w, 1, true, []⟩
def z3d : List (Nat × AV) → Env
 | [], _ => .any
 | (t, x) :: l, j => if j = t then x else z3d l j
def zaw (l2 : List Grp) (H1 : z02) (b : Nat) (ks : List Nat) (env : Env) : List (Nat × AV) → Prop
 | [] => True
 | (t, y) :: r => leS l2 (rnV b H1 ks 6 (env t)) y ∧ zaw l2 H1 b ks env r
def allB (b n : Nat) : List Nat → Prop
 | [] => True
 | k :: r => b ≤ k ∧ k < n ∧ allB b n r
def zll : List Nat → Prop
 | [] => True
 | k :: r => k ∉ r ∧ zll r
def rnG (b : Nat) (H : z02) (ks : List Nat) (v : Nat) (G : Grp) : Grp := ⟨G.w, v, G.exact, G.xs.map (rnV b H ks 6)⟩
def z3k (b : Nat) (H : z02) (ks : List Nat) : List Grp → List Grp
 | [] => []
 | G :: l => rnG b H ks G.ver G :: z3k b H ks l
def z3q (b : Nat) (H : z02) (ks : List Nat) (l : List Grp) : List Nat → List Grp
 | [] => []
 | k :: r => rnG b H ks 1 (l.getD k default) :: z3q b H ks l r
def y31 (b : Nat) (env : Env) (l1 l2 : List Grp) (ks : List Nat) (live : List (Nat × AV)) (heap : List Grp) : Prop := zaw l2 (hl l1) b ks env live ∧ z7a l2 l2 heap
def y32 (b : Nat) (env : Env) (l1 : List Grp) (ks : List Nat) (live : List (Nat × AV)) (heap : List Grp) : Prop :=
 allB b l1.length ks ∧ zll ks ∧ y31 b env l1 (z3k b (hl l1) ks (l1.take b) ++ z3q b (hl l1) ks l1 ks) ks live heap
def zck : List Nat → Prop
 | [] => True
 | w :: r => 0 < w ∧ zck r
theorem z7z : ∀ {ws : List Nat}, zck ws → ∀ w ∈ ws, 0 < w
 | [], _, w, hw => by simp at hw
 | k :: r, h, w, hw => by
   rcases List.mem_cons.1 hw with rfl | hw
   · exact h.1
   · exact z7z h.2 w hw
def y33 (b : Nat) (env : Env) (l : List Grp) (p : List Nat × List Nat) (live : List (Nat × AV)) (heap : List Grp) : Prop := zck p.2 ∧ y32 b env (l ++ p.2.map z6z) p.1 live heap
def Head (b : Nat) (env : Env) (H : z02) (srcs : List Src) (live : List (Nat × AV)) (heap : List Grp) : Prop := b ≤ H.n ∧ y33 b env H.groups (z47 H.n srcs) live heap
section
variable {P : Program} {n b : Nat} {env : Env} {H : z02} {Q : Ex → Env → z02 → Prop}
theorem y34 {l : List Grp} {srcs : List Src} {live : List (Nat × AV)} {heap : List Grp} : Head b env (hl l) srcs live heap = (b ≤ l.length ∧ y33 b env l (z47 l.length srcs) live heap) := by
 rw [Head, ziz, hl_n]
theorem y35 {c : AC} (w : Nat) (hw0 : 0 < w) (h : T P n b c env (H.push ⟨w, 1, true, []⟩) Q) : T P n b c env H Q := by
 intro rd mm hrd code hc S a hb hS hF
 exact wpIn_mono (h rd mm hrd code hc (S.virt w) a (Nat.le_succ_of_le hb) (hS.virt w hw0) ⟨hF.size, hF.defers.mono (Evo.virt _), fun j hj => VRel.mono (Evo.virt _) _ (hF.val j hj)⟩) fun e a w hh => hh.trans ((Evo.virt _).down hb)
theorem zlm {c : AC} : ∀ (ws : List Nat) {l : List Grp}, (∀ w ∈ ws, 0 < w) → T P n b c env (hl (l ++ ws.map z6z)) Q → T P n b c env (hl l) Q
 | [], l, _, h => by simpa using h
 | w :: ws, l, hw, h => y35 w (hw w (by simp)) (by rw [z3p]; exact zlm ws (fun w' h' => hw w' (by simp [h'])) (by simpa [z6z] using h))
theorem ztr {c : AC} {H' : z02} (hn : H'.n = H.n) (h : ∀ g, g < H.n → H'.at_ g = H.at_ g) (k : T P n b c env H' Q) : T P n b c env H Q :=
 fun rd mm hrd code hc S a hb hS hF => k rd mm hrd code hc S a hb (hS.congr hn h) hF
theorem zc2 {m : Nat} : ∀ {ks : List Nat}, allB b m ks → ∀ k ∈ ks, b ≤ k ∧ k < m
 | [], _, k, hk => by simp at hk
 | k :: r, h, j, hj => by
   rcases List.mem_cons.1 hj with rfl | hj
   · exact ⟨h.1, h.2.1⟩
   · exact zc2 h.2.2 j hj
theorem z6q : ∀ {ks : List Nat}, zll ks → ks.Nodup
 | [], _ => List.nodup_nil
 | k :: r, h => List.nodup_cons.2 ⟨h.1, z6q h.2⟩
theorem zcl {H : z02} {ks : List Nat} : ∀ {l : List Grp}, (z3k b H ks l).length = l.length
 | [] => rfl
 | G :: l => by simp [z3k, zcl]
theorem zf7 {H : z02} {ks : List Nat} : ∀ {l : List Grp} {g : Nat}, g < l.length → (z3k b H ks l).getD g default = rnG b H ks (l.getD g default).ver (l.getD g default)
 | [], g, h => by simp at h
 | G :: l, 0, _ => rfl
 | G :: l, g + 1, h => by simpa [z3k] using zf7 (l := l) (g := g) (by simpa using h)
theorem zcm {H : z02} {ks : List Nat} {l : List Grp} : ∀ {r : List Nat}, (z3q b H ks l r).length = r.length
 | [] => rfl
 | k :: r => by simp [z3q, zcm]
theorem zf8 {H : z02} {ks : List Nat} {l : List Grp} : ∀ {r : List Nat} {j : Nat}, j < r.length → (z3q b H ks l r).getD j default = rnG b H ks 1 (l.getD (r.getD j 0) default)
 | [], j, h => by simp at h
 | k :: r, 0, _ => rfl
 | k :: r, j + 1, h => by simpa [z3q] using zf8 (r := r) (j := j) (by simpa using h)
theorem zcn {l1 : List Grp} {ks : List Nat} (hb : b ≤ l1.length) : ((hl (z3k b (hl l1) ks (l1.take b) ++ z3q b (hl l1) ks l1 ks)).n = ((hl l1).repack b ks 6).n) ∧
   ∀ g, g < ((hl l1).repack b ks 6).n → (hl (z3k b (hl l1) ks (l1.take b) ++ z3q b (hl l1) ks l1 ks)).at_ g = ((hl l1).repack b ks 6).at_ g := by
 have hO : (z3k b (hl l1) ks (l1.take b)).length = b := by rw [zcl, List.length_take]; omega
 refine ⟨?_, fun g hg => ?_⟩
 · show (z3k b (hl l1) ks (l1.take b) ++ z3q b (hl l1) ks l1 ks).length = b + ks.length
   rw [List.length_append, hO, zcm]
 · have hg' : g < b + ks.length := hg
   rw [z2g]
   show _ = (⟨_, if g < b then (l1.getD g default).ver else 1, _, _⟩ : Grp)
   by_cases hgb : g < b
   · rw [if_pos hgb, z4c hgb]
     have e : (z3k b (hl l1) ks (l1.take b) ++ z3q b (hl l1) ks l1 ks).getD g default = (z3k b (hl l1) ks (l1.take b)).getD g default := by
       simp [List.getD, List.getElem?_append_left (show g < (z3k b (hl l1) ks (l1.take b)).length by omega)]
     have e2 : (l1.take b).getD g default = l1.getD g default := by
       simp [List.getD, hgb]
     rw [e, zf7 (by simp; omega), e2]
     rfl
   · rw [if_neg hgb]
     have e : (z3k b (hl l1) ks (l1.take b) ++ z3q b (hl l1) ks l1 ks).getD g default = (z3q b (hl l1) ks l1 ks).getD (g - b) default := by
       have := List.getElem?_append_right (l₁ := z3k b (hl l1) ks (l1.take b)) (l₂ := z3q b (hl l1) ks l1 ks) (i := g) (by omega)
       rw [hO] at this
       simp [List.getD, this]
     rw [e, zf8 (by omega)]
     have e3 : inv b ks g = ks.getD (g - b) 0 := by rw [inv, if_neg hgb]
     rw [e3]
     rfl
theorem zco {S : MS} {l2 : List Grp} {H1 : z02} {ks : List Nat} {a : Act} (hS : SRel S (hl l2)) (hF : FRel S n (fun i => rnV b H1 ks 6 (env i)) a) : ∀ {live : List (Nat × AV)}, zaw l2 H1 b ks env live → ∀ i, i < n → VRel S (z3d live i) (a.tmps.getD i undef)
 | [], _, i, _ => trivial
 | (t, y) :: r, h, i, hi => by
   show VRel S (if i = t then y else z3d r i) _
   split
   · rename_i hit
     subst hit
     exact zj0 (.inl hS) _ h.1 (hF.val i hi)
   · exact zco hS hF h.2 i hi
theorem zts {c : AC} {srcs : List Src} {live : List (Nat × AV)} {heap : List Grp} (hh : Head b env H srcs live heap) (h : T P n b c (z3d live) (hl heap) Q) : T P n b c env H Q := by
 obtain ⟨hb, hh⟩ := hh
 have hgn : H.groups.length = H.n := by simp [z02.groups]
 refine ztr (H' := hl H.groups) hgn (fun g hg => ?_) ?_
 · show H.groups.getD g default = _
   simp [z02.groups, List.getD, hg]
 refine zlm (z47 H.n srcs).2 (z7z hh.1) ?_
 replace hh := hh.2
 generalize hl1 : H.groups ++ (z47 H.n srcs).2.map z6z = l1
 simp only [hl1] at hh
 obtain ⟨h1, h2, h3, h4⟩ := hh
 have hb1 : b ≤ l1.length := by rw [← hl1, List.length_append]; omega
 refine zyb (z47 H.n srcs).1 6 hb1 (fun k hk => zc2 h1 k hk) (z6q h2) ?_
 obtain ⟨e1, e2⟩ := zcn (ks := (z47 H.n srcs).1) hb1
 refine ztr e1 e2 ?_
 intro rd mm hrd code hc S a hbS hS hF
 have hlen := zae h4
 exact h rd mm hrd code hc S a hbS (z7y hS h4) ⟨hF.size, hF.defers, zco hS hF h3⟩
theorem z0p {σ : Type} (Fact : σ → Prop) (μ : σ → Nat) (live : σ → List (Nat × AV)) (heap : σ → List Grp) (srcs : Env → z02 → List Src) {c : AC} (s0 : σ) (h0 : Fact s0) (he : Head b env H (srcs env H) (live s0) (heap s0))
   (round : ∀ s, Fact s → T P n b c (z3d (live s)) (hl (heap s)) (Ex.then (fun env' H' => ∃ s', Head b env' H' (srcs env' H') (live s') (heap s') ∧ Fact s' ∧ μ s' < μ s) Q)) : T P n b (.loop c) env H Q := by
 refine y12 (fun s env H => Fact s ∧ Head b env H (srcs env H) (live s) (heap s)) μ s0 ⟨h0, he⟩ fun s env H hI => ?_
 refine zts hI.2 (T.mono (round s hI.1) fun x env' H' hh => ?_)
 cases x with
 | normal => obtain ⟨s', k1, k2, k3⟩ := hh; exact ⟨s', ⟨k2, k1⟩, k3⟩
 | exit id => exact hh
 | ret => exact hh
end
def hset (l : List Grp) (g : Nat) (G : Grp) : z02 := (hl l).set g G
def setQ : List Grp → Nat → Grp → Option (List Grp)
 | [], _, _ => none
 | _ :: l, 0, G => some (G :: l)
 | K :: l, g + 1, G => (setQ l g G).map (K :: ·)
theorem zj1 : ∀ {l : List Grp} {g : Nat} {G : Grp} {l' : List Grp}, setQ l g G = some l' → g < l.length ∧ l' = l.set g G
 | [], _, _, _, h => by cases h
 | _ :: l, 0, G, _, h => by cases h; exact ⟨by simp, rfl⟩
 | K :: l, g + 1, G, l', h => by
   obtain ⟨r, hr, rfl⟩ := Option.map_eq_some_iff.1 h
   obtain ⟨h1, rfl⟩ := zj1 hr
   exact ⟨by simpa using h1, rfl⟩
theorem y36 (l : List Grp) (g : Nat) (G : Grp) : (hl l).set g G = (match setQ l g G with | some l' => hl l' | none => hset l g G) := by
 cases h : setQ l g G with
 | none => rfl
 | some l' => obtain ⟨h1, rfl⟩ := zj1 h; exact z5o l g G h1
theorem ztt (K : Grp) (l : List Grp) (G : Grp) : setQ (K :: l) 0 G = some (G :: l) := rfl
theorem ztu (K : Grp) (l : List Grp) (g : Nat) (G : Grp) : setQ (K :: l) (g + 1) G = (setQ l g G).map (K :: ·) := rfl
theorem y37 (g : Nat) : pos [] g = none := rfl
theorem zyd (k : Nat) (ks : List Nat) (g : Nat) : pos (k :: ks) g = if g = k then some 0 else (pos ks g).map (· + 1) := rfl
section
variable {b d : Nat} {H : z02} {ks : List Nat}
def rnL (b : Nat) (H : z02) (ks : List Nat) (d : Nat) (xs : List AV) : List AV := xs.map (rnV b H ks d)
theorem y6w (xs : List AV) : xs.map (rnV b H ks (d + 1)) = bif z0h xs then xs else rnL b H ks (d + 1) xs := by
 cases h : z0h xs
 · rfl
 · have key : ∀ (d : Nat) {x : AV}, x.pure = true → rnV b H ks d x = x := by
     intro d
     induction d with
     | zero => intro x hx; simp [rnV, hx]
     | succ d ih =>
       intro x hx
       have kl : ∀ cs : List AV, z0h cs = true → cs.map (rnV b H ks d) = cs := fun cs hc => by
         have : cs.map (rnV b H ks d) = cs.map id := List.map_congr_left fun y hy => ih (z2q.1 hc y hy)
         simpa using this
       cases x with
       | ref => simp [AV.pure] at hx
       | ptr => simp [AV.pure] at hx
       | map => simp [AV.pure] at hx
       | agg cs => rw [rnV, kl cs (by simpa [AV.pure] using hx)]
       | tup cs => rw [rnV, kl cs (by simpa [AV.pure] using hx)]
       | fn f cs => rw [rnV, kl cs (by simpa [AV.pure] using hx)]
       | _ => rfl
   have : xs.map (rnV b H ks (d + 1)) = xs.map id := List.map_congr_left fun y hy => key _ (z2q.1 h y hy)
   simpa using this
theorem y38 : rnL b H ks d [] = [] := rfl
theorem zye (x : AV) (xs : List AV) : rnL b H ks d (x :: xs) = rnV b H ks d x :: rnL b H ks d xs := rfl
theorem y6x (g v off len : Nat) : rnV b H ks (d + 1) (.ref g v off len) = if g < b then .ref g v off len else if v = (H.at_ g).ver then
     (match pos ks g with
      | some j => .ref (b + j) 1 off len
      | none => if 0 < (H.at_ g).w ∧ off + len ≤ (H.at_ g).xs.length then frzL (H.at_ g).w ((((H.at_ g).xs.drop off).take len).map (rnV b H ks d)) else .any)
     else .any := rfl
theorem y6y (g v i o : Nat) : rnV b H ks (d + 1) (.ptr g v i o) = if g < b then .ptr g v i o else if v = (H.at_ g).ver then
     (match pos ks g with
      | some j => .ptr (b + j) 1 i o
      | none => if o = 0 ∧ i < (H.at_ g).xs.length ∧ 0 < (H.at_ g).w then frzP (rnV b H ks d ((H.at_ g).xs.getD i .any)) else .any)
     else .any := rfl
theorem y6z (cs : List AV) : rnV b H ks (d + 1) (.agg cs) = .agg (cs.map (rnV b H ks d)) := rfl
theorem y70 (cs : List AV) : rnV b H ks (d + 1) (.tup cs) = .tup (cs.map (rnV b H ks d)) := rfl
theorem rn_fn (f : Nat) (cs : List AV) : rnV b H ks (d + 1) (.fn f cs) = .fn f (cs.map (rnV b H ks d)) := rfl
theorem y71 : rnV b H ks (d + 1) .any = .any := rfl
theorem y39 (w : Nat) (xs : List AV) : rnV b H ks (d + 1) (.full w xs) = .full w xs := rfl
theorem rn_mp (g v : Nat) : rnV b H ks (d + 1) (.map g v) = if g < b then .map g v else if v = (H.at_ g).ver then (match pos ks g with | some j => .map (b + j) 1 | none => .any) else .any := rfl
theorem y3a (q : Bool) : rnV b H ks (d + 1) (.bool q) = .bool q := rfl
theorem y72 (k : IntKind) (n : Int) : rnV b H ks (d + 1) (.int k n) = .int k n := rfl
theorem y73 (s : List UInt8) : rnV b H ks (d + 1) (.str s) = .str s := rfl
theorem y3b : rnV b H ks (d + 1) .nilS = .nilS := rfl
theorem y74 : rnV b H ks (d + 1) .nul = .nul := rfl
theorem y3c : rnV b H ks (d + 1) .nilP = .nilP := rfl
theorem y3d : rnV b H ks (d + 1) .nilF = .nilF := rfl
theorem y75 (l : Nat) : rnV b H ks (d + 1) (.yld l) = .yld l := rfl
theorem y76 (w : Nat) (xs : List AV) : rnV b H ks (d + 1) (.lst w xs) = .lst w xs := rfl
theorem y3e (x : AV) : rnV b H ks (d + 1) (.cptr x) = .cptr x := rfl
end
section
variable {l l0 l' : List Grp} {G G' : Grp}
theorem y77 : z7a l0 [] [] = True := rfl
theorem y3f : z7a l0 (G :: l) (G' :: l') = (zyc l0 G G' ∧ z7a l0 l l') := rfl
theorem g_le : zyc l0 G G' = (G.w = G'.w ∧ G.ver = G'.ver ∧ (G'.exact = true → G.exact = true) ∧ leSL l0 G.xs G'.xs) := rfl
theorem ztv {x : AV} : leS l x x = True := eq_true (zc1 l x)
theorem zyf {xs : List AV} : leSL l xs xs = True := eq_true (z1l l xs)
theorem y3g {ys : List AV} : leSL l [] ys = (ys = []) := by simp only [leSL]
theorem zyg {x y : AV} {xs ys : List AV} : leSL l (x :: xs) (y :: ys) = (leS l x y ∧ leSL l xs ys) := by simp only [leSL]
theorem zf9 {k : IntKind} {a : Int} {k' : IntKind} {b : Int} : leS l (.int k a) (.int k' b) = (k = k' ∧ a = b) := by simp only [leS]
theorem zax {a : Bool} {b : Bool} : leS l (.bool a) (.bool b) = (a = b) := by simp only [leS]
theorem zcp  {w : Nat} {ys : List AV} : leS l .nilS (.lst w ys) = (0 < w ∧ ys = []) := by simp only [leS]
theorem zln  {g v o n : Nat} : leS l .nilS (.ref g v o n) = (o = 0 ∧ n = 0 ∧ (l.getD g default).ver = v ∧ 0 < (l.getD g default).w ∧ (l.getD g default).xs = [] ∧ (l.getD g default).exact = true ∧ g < l.length) := by simp only [leS]
theorem zfa  {w : Nat} {ys : List AV} : leS l .nul (.lst w ys) = (0 < w ∧ ys = []) := by simp only [leS]
theorem zfb  {w : Nat} {ys : List AV} : leS l .emp (.lst w ys) = (0 < w ∧ ys = []) := by simp only [leS]
theorem zj2 {w : Nat} {xs : List AV} {w' : Nat} {ys : List AV} : leS l (.full w xs) (.full w' ys) = (w = w' ∧ xs = ys) := by simp only [leS]
theorem zcq {w : Nat} {xs : List AV} {w' : Nat} {ys : List AV} : leS l (.full w xs) (.lst w' ys) = (w = w' ∧ leSL l xs ys ∧ z0h ys = true) := by simp only [leS]
theorem zqc {g v g' v' : Nat} : leS l (.map g v) (.map g' v') = (g = g' ∧ v = v') := by simp only [leS, AV.map.injEq]
theorem zfc {w : Nat} {xs : List AV} {w' : Nat} {ys : List AV} : leS l (.lst w xs) (.lst w' ys) = (w = w' ∧ xs = ys) := by simp only [leS]
theorem zqd {g v o n : Nat} {g' v' o' n' : Nat} : leS l (.ref g v o n) (.ref g' v' o' n') = (g = g' ∧ v = v' ∧ o = o' ∧ n = n') := by simp only [leS]
theorem zqe {g v o n : Nat} {g' v' o' n' : Nat} : leS l (.ptr g v o n) (.ptr g' v' o' n') = (g = g' ∧ v = v' ∧ o = o' ∧ n = n') := by simp only [leS]
theorem zfd {xs : List AV} {ys : List AV} : leS l (.agg xs) (.agg ys) = leSL l xs ys := by simp only [leS]
theorem zfe {xs : List AV} {ys : List AV} : leS l (.tup xs) (.tup ys) = leSL l xs ys := by simp only [leS]
theorem y78 {x : AV} : leS l x .any = True := eq_true (by cases x <;> simp only [leS])
def ansW (x y : AV) : Prop := leS [] x y
theorem y3h {x : AV} : ansW x x = True := ztv
theorem y79 {k k' : IntKind} {a b : Int} : ansW (.int k a) (.int k' b) = (k = k' ∧ a = b) := zf9
theorem y3i {a b : Bool} : ansW (.bool a) (.bool b) = (a = b) := zax
theorem y3j {w w' : Nat} {xs ys : List AV} : ansW (.full w xs) (.lst w' ys) = (w = w' ∧ leSL [] xs ys ∧ z0h ys = true) := zcq
theorem y7a {w w' : Nat} {xs ys : List AV} : ansW (.lst w xs) (.lst w' ys) = (w = w' ∧ xs = ys) := zfc
theorem y3k {w : Nat} {ys : List AV} : ansW .nilS (.lst w ys) = (0 < w ∧ ys = []) := zcp
theorem y7b {w : Nat} {ys : List AV} : ansW .nul (.lst w ys) = (0 < w ∧ ys = []) := zfa
theorem y7c {w : Nat} {ys : List AV} : ansW .emp (.lst w ys) = (0 < w ∧ ys = []) := zfb
theorem y7d {xs ys : List AV} : ansW (.agg xs) (.agg ys) = leSL [] xs ys := zfd
theorem z1q {xs ys : List AV} : ansW (.tup xs) (.tup ys) = leSL [] xs ys := zfe
end
attribute [push_cast] zj2 zcq zqc y3j y39 rn_mp
attribute [push_cast] ztv zyf y3g zyg zf9 zax zcp zln zfa zfb zfc zqd zqe zfd zfe y78 y3h y79 y3i y7a y3k y7b y7c y7d
section
variable {H H1 : z02} {l0 : List Grp} {b t : Nat} {ks : List Nat} {env : Env} {y : AV} {r : List (Nat × AV)}
theorem zyh : zaw l0 H1 b ks env [] = True := rfl
theorem ztw : zaw l0 H1 b ks env ((t, y) :: r) = (leS l0 (rnV b H1 ks 6 (env t)) y ∧ zaw l0 H1 b ks env r) := rfl
theorem zyi {n : Nat} : allB b n [] = True := rfl
theorem ztx {n k : Nat} : allB b n (k :: ks) = (b ≤ k ∧ k < n ∧ allB b n ks) := rfl
theorem zty : zll [] = True := rfl
theorem zqf {k : Nat} : zll (k :: ks) = (k ∉ ks ∧ zll ks) := rfl
theorem ztz {w g v o n : Nat} : z0r w (.ref g v o n) = .grp g := rfl
theorem zu0 {w g v i o : Nat} : z0r w (.ptr g v i o) = .grp g := rfl
theorem zu1 {w g v : Nat} : z0r w (.map g v) = .grp g := rfl
theorem zqg : zck [] = True := rfl
theorem zlo {w : Nat} {r : List Nat} : zck (w :: r) = (0 < w ∧ zck r) := rfl
theorem zqh {w : Nat} : z0r w .nilS = .virt w := rfl
theorem zqi {g v i o k : Nat} : cellAt H (.ptr g v i o) k = ((H.at_ g).xs.getD i .any).cells.getD k .any := rfl
theorem y7e {N : Nat} : z47 N [] = ([], []) := rfl
theorem y7f {N g : Nat} {l : List Src} : z47 N (.grp g :: l) = (g :: (z47 N l).1, (z47 N l).2) := rfl
theorem y3l {N w : Nat} {l : List Src} : z47 N (.virt w :: l) = (N :: (z47 (N + 1) l).1, w :: (z47 (N + 1) l).2) := rfl
theorem y7g {j : Nat} : z3d [] j = .any := rfl
theorem y3m {j : Nat} : z3d ((t, y) :: r) j = if j = t then y else z3d r j := rfl
variable {l l1 l2 : List Grp} {G : Grp} {live : List (Nat × AV)} {heap : List Grp}
theorem head1 {p q : List Nat} : y33 b env l (p, q) live heap = (zck q ∧ y32 b env (l ++ q.map z6z) p live heap) := rfl
theorem head2 : y32 b env l1 ks live heap = (allB b l1.length ks ∧ zll ks ∧ y31 b env l1 (z3k b (hl l1) ks (l1.take b) ++ z3q b (hl l1) ks l1 ks) ks live heap) := rfl
theorem head3 : y31 b env l1 l2 ks live heap = (zaw l2 (hl l1) b ks env live ∧ z7a l2 l2 heap) := rfl
theorem y7h : z3k b H ks [] = [] := rfl
theorem y3n : z3k b H ks (G :: l) = rnG b H ks G.ver G :: z3k b H ks l := rfl
theorem y7i : z3q b H ks l [] = [] := rfl
theorem y3o {k : Nat} {r : List Nat} : z3q b H ks l (k :: r) = rnG b H ks 1 (l.getD k default) :: z3q b H ks l r := rfl
theorem y7j {v : Nat} : rnG b H ks v G = ⟨G.w, v, G.exact, G.xs.map (rnV b H ks 6)⟩ := rfl
end
theorem zyj (i : Nat) (ks : List Nat) : z67 i ks [] = [] := rfl
theorem zu2 (i : Nat) (ks : List Nat) (G : Grp) (l : List Grp) : z67 i ks (G :: l) = (if i ∈ ks then G.dead else G) :: z67 (i + 1) ks l := rfl
theorem y3p (w : Nat) : z6z w = ⟨w, 1, true, []⟩ := rfl
theorem y3q (w : Nat) (xs : List AV) : frzL w xs = bif z0h xs then .lst w xs else .any := rfl
theorem y3r (x : AV) : frzP x = bif x.pure then .cptr x else .any := rfl
theorem zu3 (xs ys : List AV) : z0h (xs ++ ys) = (z0h xs && z0h ys) := by
 induction xs with
 | nil => rfl
 | cons x xs ih => simp [z0h, ih, Bool.and_assoc]
theorem zqj (i : Nat) : ((i : Int) - 1).toNat = i - 1 := by omega
theorem zqk (i : Nat) : ((i : Int) + 1).toNat = i + 1 := by omega
theorem zu4 (i k : Nat) : ((i : Int) + (k : Int)).toNat = i + k := by omega
theorem drop_at {α : Type} [Inhabited α] {l : List α} {i : Nat} (h : i < l.length) : l.drop i = nth l i :: l.drop (i + 1) := by
 rw [List.drop_eq_getElem_cons h]; simp [nth, List.getD, h]
theorem take_at {α : Type} [Inhabited α] {l : List α} {i : Nat} (h : i < l.length) : l.take (i + 1) = l.take i ++ [nth l i] := by
 rw [List.take_succ_eq_append_getElem h]; simp [nth, List.getD, h]
theorem z1o {α : Type} [Inhabited α] {l : List α} {i : Nat} (h : i < l.length) : nth l i ∈ l := by
 have : nth l i = l[i] := by simp [nth, List.getD, h]
 rw [this]; exact List.getElem_mem h
theorem y3s (g k : Nat) (ks : List Nat) : (g ∈ k :: ks) = (g = k ∨ g ∈ ks) := by simp
theorem zlp (g : Nat) : (g ∈ ([] : List Nat)) = False := by simp
theorem y3t (H : z02) (ks : List Nat) (g : Nat) : (H.only ks).at_ g = if g ∈ ks then H.at_ g else (H.at_ g).dead := rfl
def z1m : List AV → List Nat
 | [] => []
 | .ref g _ _ _ :: l => g :: z1m l
 | .ptr g _ _ _ :: l => g :: z1m l
 | .agg cs :: l => z1m cs ++ z1m l
 | .fn _ cs :: l => z1m cs ++ z1m l
 | _ :: l => z1m l
theorem z2t {w : Nat} {xs l : List AV} : z1m (.lst w xs :: l) = z1m l := by rw [z1m] <;> (intros; simp_all)
theorem zu5 {x : AV} {l : List AV} : z1m (.cptr x :: l) = z1m l := by rw [z1m] <;> (intros; simp_all)
theorem zyk {k : IntKind} {n : Int} {l : List AV} : z1m (.int k n :: l) = z1m l := by rw [z1m] <;> (intros; simp_all)
theorem zu6 {b : Bool} {l : List AV} : z1m (.bool b :: l) = z1m l := by rw [z1m] <;> (intros; simp_all)
theorem zu7 {l : List AV} : z1m (.nilS :: l) = z1m l := by rw [z1m] <;> (intros; simp_all)
theorem zyl {g v o n : Nat} {l : List AV} : z1m (.ref g v o n :: l) = g :: z1m l := by rw [z1m]
theorem zym {g v o n : Nat} {l : List AV} : z1m (.ptr g v o n :: l) = g :: z1m l := by rw [z1m]
theorem zyn {cs l : List AV} : z1m (.agg cs :: l) = z1m cs ++ z1m l := by rw [z1m]
theorem y3u {f : Nat} {cs l : List AV} : z1m (.fn f cs :: l) = z1m cs ++ z1m l := by rw [z1m]
theorem zyo : z1m [] = [] := by rw [z1m]
attribute [push_cast] z2t zu5 zyk zu6 zu7 zyl zym zyn y3u zyo
def okA (d : Nat) (H : z02) : List AV → Prop
 | [] => True
 | x :: l => z2j d H x ∧ okA d H l
section
variable {P : Program} {f : Nat} {xs ys : List AV} {y : AV} {l : List Grp} {H : z02}
theorem zcr {d : Nat} : ∀ {xs : List AV}, okA d H xs → ∀ x ∈ xs, z2j d H x
 | [], _, x, hx => by simp at hx
 | z :: r, h, x, hx => by
   rcases List.mem_cons.1 hx with rfl | hx
   · exact h.1
   · exact zcr h.2 x hx
theorem y3v {d : Nat} : okA d H [] = True := rfl
theorem zyp {d : Nat} {x : AV} : okA d H (x :: xs) = (z2j d H x ∧ okA d H xs) := rfl
theorem z5f (h : PC P f ys y) (hl : leL xs ys) : PC P f xs y := z65 hl h
def chB (c : Bool) (p q : Prop) : Prop := match c with
 | true => p
 | false => q
theorem zyq {p q : Prop} : chB true p q = p := rfl
theorem zu8 {p q : Prop} : chB false p q = q := rfl
def frA (d : Nat) (H : z02) (xs : List AV) : List AV := xs.map (frzV d H)
theorem y3w {d : Nat} : frA d H [] = [] := rfl
theorem zyr {d : Nat} {x : AV} : frA d H (x :: xs) = frzV d H x :: frA d H xs := rfl
theorem cK {K : AV → z02 → Prop} (h : PC P f ys y) (hh : chB (z0h xs) (leSL [] xs ys ∧ z0h ys = true ∧ @nx y (hl l) ⟨K⟩)
   (chB y.flat (okA 4 (hl l) xs ∧ leSL [] (frA 4 (hl l) xs) ys ∧ @nx y (hl l) ⟨K⟩)
     (okA 4 ((hl l).only (z1m xs)) xs ∧ leSL [] (frA 4 ((hl l).only (z1m xs)) xs) ys ∧ z0h ys = true ∧ @nx y (hl (z67 0 (z1m xs) l)) ⟨K⟩))) : @zlh P f xs (hl l) ⟨K⟩ := by
 cases hp : z0h xs <;> rw [hp] at hh
 · cases hy : y.flat <;> rw [hy] at hh
   · obtain ⟨h1, h2, h3, h4⟩ := hh
     exact zf6 4 (z1m xs) (zcr h1) (z65 (z8z h2) (z6p h h3 h4))
   · obtain ⟨h1, h2, h3⟩ := hh
     exact zst (z5f h (z8z h2)) 4 (zcr h1) rfl hy h3
 · obtain ⟨h1, h2, h3⟩ := hh
   exact z65 (z8z h1) (z6p h h2 h3)
theorem eK {K : AV → z02 → Prop} (h : PC P f xs y) (hh : z0h xs = true ∧ @nx y H ⟨K⟩) : @zlh P f xs H ⟨K⟩ := z6p h hh.1 hh.2
theorem eQ {K : AV → Prop} (h : PC P f xs y) (hh : z0h xs = true ∧ @nq y ⟨K⟩) : @zxm P f xs H ⟨K⟩ := ⟨y, z6p h hh.1 ⟨rfl, rfl⟩, hh.2⟩
theorem cQ {K : AV → Prop} (h : PC P f ys y) (hh : chB (z0h xs) (leSL [] xs ys ∧ z0h ys = true ∧ @nq y ⟨K⟩)
   (y.flat = true ∧ okA 4 (hl l) xs ∧ leSL [] (frA 4 (hl l) xs) ys ∧ @nq y ⟨K⟩)) : @zxm P f xs (hl l) ⟨K⟩ := by
 cases hp : z0h xs <;> rw [hp] at hh
 · obtain ⟨hy, h1, h2, h3⟩ := hh
   exact ⟨y, zst (z5f h (z8z h2)) 4 (zcr h1) rfl hy ⟨rfl, rfl⟩, h3⟩
 · obtain ⟨h1, h2, h3⟩ := hh
   exact ⟨y, z65 (z8z h1) (z6p h h2 ⟨rfl, rfl⟩), h3⟩
end
attribute [push_cast] y3v zyp y3w zyr zyq zu8 AV.flat zsq
section
variable {d : Nat} {H : z02}
def okL (d : Nat) (H : z02) (xs : List AV) : Prop := ∀ y ∈ xs, z2j d H y
def frL (d : Nat) (H : z02) (xs : List AV) : List AV := xs.map (frzV d H)
def okM (d : Nat) (H : z02) (xs : List AV) : Prop := okL d H xs
def frM (d : Nat) (H : z02) (xs : List AV) : List AV := frL d H xs
def ifB (b : Bool) (p : Prop) : Prop := b = true ∨ p
theorem zys (p : Prop) : ifB true p = True := by simp [ifB]
theorem zu9 (p : Prop) : ifB false p = p := by simp [ifB]
theorem y7k (xs : List AV) : okL d H xs = ifB (z0h xs) (okM d H xs) := propext ⟨fun h => .inr h, fun h => h.elim (fun h => (z79 H d h).1) id⟩
theorem y7l (xs : List AV) : frL d H xs = bif z0h xs then xs else frM d H xs := by
 cases h : z0h xs
 · rfl
 · exact (z79 H d h).2
theorem y3x : okM d H [] = True := by simp [okM, okL]
theorem zyt (x : AV) (xs : List AV) : okM d H (x :: xs) = (z2j d H x ∧ okM d H xs) := by simp [okM, okL]
theorem y3y : frM d H [] = [] := rfl
theorem zyu (x : AV) (xs : List AV) : frM d H (x :: xs) = frzV d H x :: frM d H xs := rfl
theorem y7m (g v off len : Nat) : z2j (d + 1) H (.ref g v off len) = ((H.at_ g).ver = v ∧ 0 < (H.at_ g).w ∧ off + len ≤ (H.at_ g).xs.length ∧ okL d H (((H.at_ g).xs.drop off).take len)) := rfl
theorem y7n (g v i o : Nat) : z2j (d + 1) H (.ptr g v i o) = ((H.at_ g).ver = v ∧ i < (H.at_ g).xs.length ∧ 0 < (H.at_ g).w ∧ o = 0 ∧ z2j d H ((H.at_ g).xs.getD i .any)) := rfl
theorem y7o (cs : List AV) : z2j (d + 1) H (.agg cs) = okL d H cs := rfl
theorem y7p (cs : List AV) : z2j (d + 1) H (.tup cs) = okL d H cs := rfl
theorem ok_fn (f : Nat) (cs : List AV) : z2j (d + 1) H (.fn f cs) = okL d H cs := rfl
theorem y7q : z2j (d + 1) H .any = True := eq_true rfl
theorem y3z (b : Bool) : z2j (d + 1) H (.bool b) = True := eq_true rfl
theorem ok_int (k : IntKind) (n : Int) : z2j (d + 1) H (.int k n) = True := eq_true rfl
theorem y7r (s : List UInt8) : z2j (d + 1) H (.str s) = True := eq_true rfl
theorem y40 : z2j (d + 1) H .nilS = True := eq_true rfl
theorem y7s : z2j (d + 1) H .nul = True := eq_true rfl
theorem y7t : z2j (d + 1) H .emp = True := eq_true rfl
theorem y41 : z2j (d + 1) H .nilP = True := eq_true rfl
theorem y42 : z2j (d + 1) H .nilF = True := eq_true rfl
theorem y7u (l : Nat) : z2j (d + 1) H (.yld l) = True := eq_true rfl
theorem y43 (w : Nat) (xs : List AV) : z2j (d + 1) H (.full w xs) = (z0h xs = true) := rfl
theorem y44 (w : Nat) (xs : List AV) : frzV (d + 1) H (.full w xs) = .full w xs := rfl
theorem y7v (w : Nat) (xs : List AV) : z2j (d + 1) H (.lst w xs) = (z0h xs = true) := rfl
theorem y45 (x : AV) : z2j (d + 1) H (.cptr x) = (x.pure = true) := rfl
theorem y7w (g v off len : Nat) : frzV (d + 1) H (.ref g v off len) = .lst (H.at_ g).w (frL d H (((H.at_ g).xs.drop off).take len)) := rfl
theorem y7x (g v i o : Nat) : frzV (d + 1) H (.ptr g v i o) = if o = 0 then .cptr (frzV d H ((H.at_ g).xs.getD i .any)) else .any := rfl
theorem y7y (cs : List AV) : frzV (d + 1) H (.agg cs) = .agg (frL d H cs) := rfl
theorem y7z (cs : List AV) : frzV (d + 1) H (.tup cs) = .tup (frL d H cs) := rfl
theorem fr_fn (f : Nat) (cs : List AV) : frzV (d + 1) H (.fn f cs) = .fn f (frL d H cs) := rfl
theorem y80 : frzV (d + 1) H .any = .any := rfl
theorem y46 (b : Bool) : frzV (d + 1) H (.bool b) = .bool b := rfl
theorem y81 (k : IntKind) (n : Int) : frzV (d + 1) H (.int k n) = .int k n := rfl
theorem y82 (s : List UInt8) : frzV (d + 1) H (.str s) = .str s := rfl
theorem y47 : frzV (d + 1) H .nilS = .nilS := rfl
theorem y83 : frzV (d + 1) H .nul = .nul := rfl
theorem y84 : frzV (d + 1) H .emp = .emp := rfl
theorem y48 : frzV (d + 1) H .nilP = .nilP := rfl
theorem y49 : frzV (d + 1) H .nilF = .nilF := rfl
theorem y85 (l : Nat) : frzV (d + 1) H (.yld l) = .yld l := rfl
theorem y86 (w : Nat) (xs : List AV) : frzV (d + 1) H (.lst w xs) = .lst w xs := rfl
theorem y4a (x : AV) : frzV (d + 1) H (.cptr x) = .cptr x := rfl
end
attribute [push_cast] zys zu9 y7k y7l y3x zyt y3y zyu y7m y7n y7o y7p ok_fn y7q y3z ok_int y7r y40 y7s y7t y41 y42 y7u y85 y7v y43 y44 y45 y7w y7x y7y y7z fr_fn y80 y46 y81 y82 y47 y83 y84 y48 y49 y86 y4a List.take_length
section
variable {P : Program} {l : List Grp} {xs cs : List AV} {K : AV → List Grp → Prop} {z : AV} {w len n : Nat}
theorem z2m {k : AK} (h : k.still = true) : @opG P k l xs ⟨K⟩ = (z0u (· < l.length) xs ∧ @opK P k (hl l) xs ⟨fun x _ => K x l⟩) := by
 rw [znt]
 have hn : ¬ k.still = false := by rw [h]; simp
 cases k <;> first | (exact propext ⟨fun hh => hh.elim (fun hh => ⟨hh.2.1, hh.2.2⟩) (fun hh => absurd hh.1 hn), fun hh => .inl ⟨h, hh.1, hh.2⟩⟩) | (simp [AK.still] at h)
theorem zql {k : AK} (h : k.still = false) (he : k.eff.isSome = true) : @opG P k l xs ⟨K⟩ = (k.appOk = true ∧ zgh k xs ∧ @opK P k (hl l) xs ⟨fun x H' => ∀ l', H' = hl l' → K x l'⟩) := by
 rw [znt]
 have hn : ¬ k.still = true := by rw [h]; simp
 cases k <;> first | (exact propext ⟨fun hh => hh.elim (fun hh => absurd hh.1 hn) (fun hh => ⟨hh.2.2.1, hh.2.2.2⟩), fun hh => .inr ⟨h, he, hh.1, hh.2⟩⟩) | (simp [AK.eff] at he)
theorem G_mv  : @opG P .mv l xs ⟨K⟩ = (z0u (· < l.length) xs ∧ @opK P .mv (hl l) xs ⟨fun x _ => K x l⟩) := z2m rfl
theorem y87  : @opG P .pick l xs ⟨K⟩ = (z0u (· < l.length) xs ∧ @opK P .pick (hl l) xs ⟨fun x _ => K x l⟩) := z2m rfl
theorem y4b {zs : List AV} {pl : List (Nat × Nat)} {idx : List Nat} : @opG P (.build zs pl idx) l xs ⟨K⟩ = (z0u (· < l.length) xs ∧ @opK P (.build zs pl idx) (hl l) xs ⟨fun x _ => K x l⟩) := z2m rfl
theorem y88 {a : Bool} {s : Nat} : @opG P (.load a s) l xs ⟨K⟩ = (z0u (· < l.length) xs ∧ @opK P (.load a s) (hl l) xs ⟨fun x _ => K x l⟩) := z2m rfl
theorem zqm  : @opG P .nilCheck l xs ⟨K⟩ = (z0u (· < l.length) xs ∧ @opK P .nilCheck (hl l) xs ⟨fun x _ => K x l⟩) := z2m rfl
theorem G_bin {op : BinOp} : @opG P (.bin op) l xs ⟨K⟩ = (z0u (· < l.length) xs ∧ @opK P (.bin op) (hl l) xs ⟨fun x _ => K x l⟩) := z2m rfl
theorem G_eqb {n : Bool} : @opG P (.eqb n) l xs ⟨K⟩ = (z0u (· < l.length) xs ∧ @opK P (.eqb n) (hl l) xs ⟨fun x _ => K x l⟩) := z2m rfl
theorem G_eqs {n : Bool} {ks : List Nat} : @opG P (.eqs n ks) l xs ⟨K⟩ = (z0u (· < l.length) xs ∧ @opK P (.eqs n ks) (hl l) xs ⟨fun x _ => K x l⟩) := z2m rfl
theorem G_eqn {n : Bool} : @opG P (.eqn n) l xs ⟨K⟩ = (z0u (· < l.length) xs ∧ @opK P (.eqn n) (hl l) xs ⟨fun x _ => K x l⟩) := z2m rfl
theorem G_un {op : UnOp} : @opG P (.un op) l xs ⟨K⟩ = (z0u (· < l.length) xs ∧ @opK P (.un op) (hl l) xs ⟨fun x _ => K x l⟩) := z2m rfl
theorem y89 {k : IntKind} : @opG P (.conv k) l xs ⟨K⟩ = (z0u (· < l.length) xs ∧ @opK P (.conv k) (hl l) xs ⟨fun x _ => K x l⟩) := z2m rfl
theorem y4c {w : Nat} {lo hi mx : Bool} : @opG P (.slice w lo hi mx) l xs ⟨K⟩ = (z0u (· < l.length) xs ∧ @opK P (.slice w lo hi mx) (hl l) xs ⟨fun x _ => K x l⟩) := z2m rfl
theorem y4d {a : Bool} {o s : Nat} : @opG P (.faddr a o s) l xs ⟨K⟩ = (z0u (· < l.length) xs ∧ @opK P (.faddr a o s) (hl l) xs ⟨fun x _ => K x l⟩) := z2m rfl
theorem y4e {a : Bool} {o s : Nat} : @opG P (.field a o s) l xs ⟨K⟩ = (z0u (· < l.length) xs ∧ @opK P (.field a o s) (hl l) xs ⟨fun x _ => K x l⟩) := z2m rfl
theorem y4f {w : Nat} : @opG P (.iaddr w) l xs ⟨K⟩ = (z0u (· < l.length) xs ∧ @opK P (.iaddr w) (hl l) xs ⟨fun x _ => K x l⟩) := z2m rfl
theorem zyv {n w : Nat} {a : Bool} : @opG P (.iaddrA n w a) l xs ⟨K⟩ = (z0u (· < l.length) xs ∧ @opK P (.iaddrA n w a) (hl l) xs ⟨fun x _ => K x l⟩) := z2m rfl
theorem y4g {n w : Nat} {a : Bool} : @opG P (.index n w a) l xs ⟨K⟩ = (z0u (· < l.length) xs ∧ @opK P (.index n w a) (hl l) xs ⟨fun x _ => K x l⟩) := z2m rfl
theorem zqn  : @opG P .indexStr l xs ⟨K⟩ = (z0u (· < l.length) xs ∧ @opK P .indexStr (hl l) xs ⟨fun x _ => K x l⟩) := z2m rfl
theorem zua {i : Nat} : @opG P (.extract i) l xs ⟨K⟩ = (z0u (· < l.length) xs ∧ @opK P (.extract i) (hl l) xs ⟨fun x _ => K x l⟩) := z2m rfl
theorem G_len {b : Bool} : @opG P (.len b) l xs ⟨K⟩ = (z0u (· < l.length) xs ∧ @opK P (.len b) (hl l) xs ⟨fun x _ => K x l⟩) := z2m rfl
theorem G_max  : @opG P .max l xs ⟨K⟩ = (z0u (· < l.length) xs ∧ @opK P .max (hl l) xs ⟨fun x _ => K x l⟩) := z2m rfl
theorem G_min  : @opG P .min l xs ⟨K⟩ = (z0u (· < l.length) xs ∧ @opK P .min (hl l) xs ⟨fun x _ => K x l⟩) := z2m rfl
theorem zyw : @opG P (.mapGet z) l xs ⟨K⟩ = (z0u (· < l.length) xs ∧ @opK P (.mapGet z) (hl l) xs ⟨fun x _ => K x l⟩) := z2m rfl
theorem zyx {f : Nat} : @opG P (.mkFunc f) l xs ⟨K⟩ = (z0u (· < l.length) xs ∧ @opK P (.mkFunc f) (hl l) xs ⟨fun x _ => K x l⟩) := z2m rfl
theorem y4h  : @opG P .toStr l xs ⟨K⟩ = (z0u (· < l.length) xs ∧ @opK P .toStr (hl l) xs ⟨fun x _ => K x l⟩) := z2m rfl
theorem y4i  : @opG P (.alloc z w) l xs ⟨K⟩ = @opK P (.alloc z w) (hl l) xs ⟨fun x H' => ∀ l', H' = hl l' → K x l'⟩ := (zql rfl rfl).trans (by simp only [AK.appOk, zgh, true_and])
theorem G_box  : @opG P .box l xs ⟨K⟩ = @opK P .box (hl l) xs ⟨fun x H' => ∀ l', H' = hl l' → K x l'⟩ := (zql rfl rfl).trans (by simp only [AK.appOk, zgh, true_and])
theorem y4j  : @opG P (.store w) l xs ⟨K⟩ = @opK P (.store w) (hl l) xs ⟨fun x H' => ∀ l', H' = hl l' → K x l'⟩ := (zql rfl rfl).trans (by simp only [AK.appOk, zgh, true_and])
theorem zub  : @opG P (.mkSlice w n z) l xs ⟨K⟩ = @opK P (.mkSlice w n z) (hl l) xs ⟨fun x H' => ∀ l', H' = hl l' → K x l'⟩ := (zql rfl rfl).trans (by simp only [AK.appOk, zgh, true_and])
theorem G_app : @opG P (.app w n z) l xs ⟨K⟩ = (0 < w ∧ offA xs ∧ @opK P (.app w n z) (hl l) xs ⟨fun x H' => ∀ l', H' = hl l' → K x l'⟩) := (zql rfl rfl).trans (by simp only [AK.appOk, zgh, decide_eq_true_eq])
theorem zyy {g v o n : Nat} : offA (.ref g v o n :: xs) = (o = 0) := rfl
theorem zuc : offA (.nilS :: xs) = True := rfl
theorem zyz : offA (.nul :: xs) = True := rfl
theorem zz0 : offA (.emp :: xs) = True := rfl
theorem zud {w : Nat} {ys : List AV} : offA (.full w ys :: xs) = True := rfl
theorem zz1 {w : Nat} {ys : List AV} : offA (.lst w ys :: xs) = True := rfl
theorem y8a {f : Nat} : @opG P .call l (.fn f cs :: xs) ⟨K⟩ = @zxn P f (xs ++ cs) l ⟨K⟩ := (rfl)
theorem G_bsl {idx : List Nat} : @opG P (.bslice w len z idx) l xs ⟨K⟩ = (z64 w len idx xs ∧ 0 < w ∧ z0h (z3n idx xs (List.replicate len z)) = true ∧ @nx (.full w (z3n idx xs (List.replicate len z))) (hl l) ⟨fun x _ => K x l⟩) := (rfl)
theorem hl_eq {l l' : List Grp} : (hl l = hl l') = (l = l') := propext ⟨y14, fun h => h ▸ rfl⟩
theorem eG {f : Nat} {y : AV} (h : PC P f xs y) (hh : z0h xs = true ∧ @nx y (hl l) ⟨fun y _ => K y l⟩) : @zxn P f xs l ⟨K⟩ := ⟨y, fun H => z6p h hh.1 ⟨rfl, rfl⟩, hh.2⟩
theorem cG {f : Nat} {ys : List AV} {y : AV} (h : PC P f ys y) (hh : leSL [] xs ys ∧ z0h ys = true ∧ @nx y (hl l) ⟨fun y _ => K y l⟩) : @zxn P f xs l ⟨K⟩ := ⟨y, fun H => z65 (z8z hh.1) (z6p h hh.2.1 ⟨rfl, rfl⟩), hh.2.2⟩
end
theorem z0v {P : Program} {f m np : Nat} {xs : List AV} {y : AV} {res : List ARes} {B : AC} (hf : z0k P f xs.length = some ⟨m, np, res, B⟩) (h : W P m 0 B (entry xs) (hl []) (Ret P res fun z H => z2j 4 H z ∧ ansW (frzV 4 H z) y)) : PC P f xs y := by
 refine y6i hf 4 ?_
 rw [znv]
 exact T.mono (W_T h) fun x env H hh => znu (fun z H hh => ⟨hh.1, y17 hh.2⟩) hh
theorem znx {P : Program} {f w : Nat} {y : AV} (h1 : PC P f [.nilS] y) (h2 : PC P f [.emp] y) : PC P f [.lst w []] y := by
 refine ⟨h1.1, fun S cargs hS hx => ?_⟩
 obtain ⟨v, r, rfl, ⟨_, _, a, cap, vs, rfl, ⟨_, hn⟩, _, _⟩, hr⟩ := hx
 cases a with
 | none => exact h1.2 S _ hS ⟨_, r, rfl, by rw [hn rfl]; rfl, hr⟩
 | some a => exact h2.2 S _ hS ⟨_, r, rfl, ⟨a, cap, rfl⟩, hr⟩
section
variable {P : Program} {H : z02} {K : AV → z02 → Prop} {n : Bool} {b d : Nat} {ks : List Nat}
theorem zue : @opK P (.eqn n) H [.emp, .nilS] ⟨K⟩ = @nx (.bool n) H ⟨K⟩ := (rfl)
theorem zuf : @opK P (.len false) H [.emp] ⟨K⟩ = @nx (.int .i64 0) H ⟨K⟩ := (rfl)
theorem y8b : rnV b H ks (d + 1) .emp = .emp := rfl
end
theorem z0n {P : Program} {n b : Nat} {c : AC} {env : Env} {H : z02} {Q : Ex → Env → z02 → Prop} (h : T P n b (.loop c) env H Q) : @z8e ⟨T P n b (.loop c) env H Q⟩ := h
attribute [push_cast] zue zuf y8b znv hl_n z2g z3p y36 ztt ztu ziz y37 zyd y6w y38 zye y6x y6y y6z y70 rn_fn y71 y3a y72 y73 y3b y74 y3c y3d y75 y76 y3e
attribute [push_cast] y77 y3f g_le zyh ztw zyi ztx zty zqf ztz zu0 zqh zu1 zqg zlo zqi y7e y7f y3l y7g y3m y34 head1 head2 head3 y7h y3n y7i y3o y7j zyj zu2 y3p y3q y3r zu3 y3t z1m List.cons_append List.nil_append
attribute [push_cast] zyy zuc zyz zz0 zud zz1 G_mv y87 y4b y88 zqm G_bin G_eqb G_eqs G_eqn G_un y89 y4c y4d y4e y4f zyv y4g zqn zua G_len G_max G_min zyx y4h y4i G_box y4j zub G_app y8a G_bsl hl_eq z0u forall_eq' forall_eq
attribute [push_cast] List.isEmpty_nil List.isEmpty_cons List.map_eq_nil_iff Option.isSome_some Option.isSome_none
attribute [push_cast] List.map_append List.length_append Option.map_some Option.map_none y3s zlp Int.add_sub_cancel Int.sub_add_cancel zqj zqk zu4 Nat.not_lt_zero Nat.zero_le
open IntWalk in
attribute [push_cast] i64_in i32_in u8_in u32_in u64_in ztn
theorem zz : type_of% (And.intro @z1 <| And.intro @z2 <| And.intro @z3 <| And.intro @z4 <| And.intro @z5 <| And.intro @z6 <| And.intro @z7 <| And.intro @z8 <| And.intro @z9 <| And.intro @z10 <| And.intro @z11 <| And.intro @z12 <| And.intro @z13 <| And.intro @z14 <| And.intro @z15 <| And.intro @z16 <| And.intro @z17 <| And.intro @z18 <| And.intro @z19 <| And.intro @z20 <| And.intro @z21 <| And.intro @z22 <| And.intro @z23 <| And.intro @z24 <| And.intro @z25 <| And.intro @z26 <| And.intro @z27 <| And.intro @z28 <| And.intro @z29 <| And.intro @z30 <| And.intro @z31 <| And.intro @z32 <| @z33) := And.intro @z1 <| And.intro @z2 <| And.intro @z3 <| And.intro @z4 <| And.intro @z5 <| And.intro @z6 <| And.intro @z7 <| And.intro @z8 <| And.intro @z9 <| And.intro @z10 <| And.intro @z11 <| And.intro @z12 <| And.intro @z13 <| And.intro @z14 <| And.intro @z15 <| And.intro @z16 <| And.intro @z17 <| And.intro @z18 <| And.intro @z19 <| And.intro @z20 <| And.intro @z21 <| And.intro @z22 <| And.intro @z23 <| And.intro @z24 <| And.intro @z25 <| And.intro @z26 <| And.intro @z27 <| And.intro @z28 <| And.intro @z29 <| And.intro @z30 <| And.intro @z31 <| And.intro @z32 <| @z33
open Go.RowKit
inductive Sh where
 | bool
 | int (k : IntKind)
 | str
 | sl (agg : Bool) (fs : List Sh)
mutual
def Is : Sh → AV → Prop
 | .bool, x => ∃ b, x = .bool b
 | .int k, x => ∃ n, x = .int k n ∧ (Lit.int k n).wf = true
 | .str, x => ∃ s : List UInt8, x = .str s ∧ s.length ≤ maxLen
 | .sl agg fs, x => x = .nilS ∨ ∃ xs, x = .lst fs.length xs ∧ xs.length ≤ maxLen ∧ ∀ y ∈ xs, ∃ cs, y = (if agg then .agg cs else cs.headD .any) ∧ IsL fs cs
def IsL : List Sh → List AV → Prop
 | [], cs => cs = []
 | s :: fs, cs => ∃ c r, cs = c :: r ∧ Is s c ∧ IsL fs r
end
theorem zug : ∀ {fs : List Sh} {cs : List AV}, IsL fs cs → cs.length = fs.length
 | [], _, h => by rw [show _ = [] from h]; rfl
 | _ :: _, _, ⟨_, _, h, _, k⟩ => by rw [h]; simp [zug k]
mutual
def zel (P : Program) : Sh → TypeId → Bool
 | .bool, t => match P.underlying t with | some .bool => true | _ => false
 | .int k, t => match P.underlying t with | some (.int k') => k' == k | _ => false
 | .str, t => match P.underlying t with | some .string => true | _ => false
 | .sl agg fs, t => match P.underlying t with
   | some (.slice e) => P.cellsOf e == fs.length && !fs.isEmpty && (match agg, P.underlying e with
     | true, some (.struct fl) => zem P fs 0 fl.toList
     | true, some (.array n u) => fs.length == n && P.cellsOf u == 1 && zuh P fs u
     | false, _ => fs.length == 1 && zuh P fs e
     | _, _ => false)
   | _ => false
def zem (P : Program) : List Sh → Nat → List Field → Bool
 | [], _, [] => true
 | s :: ss, i, f :: fl => f.offset == i && P.cellsOf f.type == 1 && zel P s f.type && zem P ss (i + 1) fl
 | _, _, _ => false
def zuh (P : Program) : List Sh → TypeId → Bool
 | [], _ => true
 | s :: ss, u => zel P s u && zuh P ss u
end
section
variable {H : Type} {enc : TypeId × Value → H} {P : Program} {w : World} {base : Nat} {spare : Nat → Bool} {held : Bool}
def Got (w : World) (s : Sh) (v : Value) : Prop := ∃ x, Is s x ∧ VRel (MS.start w) x v ∧ x.pure = true ∧ x.one = true
def GotL (w : World) (fs : List Sh) (vs : List Value) : Prop := ∃ xs, IsL fs xs ∧ z03 (MS.start w) xs vs ∧ z0h xs = true ∧ z4t xs = true
theorem zny : GotL w [] [] := ⟨[], rfl, rfl, rfl, rfl⟩
theorem zj3 {s : Sh} {fs : List Sh} {v : Value} {vs : List Value} (h : Got w s v) (k : GotL w fs vs) : GotL w (s :: fs) (v :: vs) := by
 obtain ⟨x, h1, h2, h3, h4⟩ := h
 obtain ⟨xs, k1, k2, k3, k4⟩ := k
 exact ⟨x :: xs, ⟨x, xs, rfl, h1, k1⟩, ⟨v, vs, rfl, h2, k2⟩, by simp [z0h, h3, k3], by simp [z4t, h4, k4]⟩
theorem zlq {a : Addr} {v : Value} (h : w.cell? a = some v) : (MS.start w).im a.block := zq1 h
theorem y4k {agg : Bool} {fs : List Sh} {a : Addr} {len cap sz : Nat} (hsz : sz = fs.length) (hpos : 0 < fs.length) (hagg : agg = false → fs.length = 1) (hlc : len ≤ cap) (hcap : cap ≤ maxLen)
   (h : ∀ i, i < len → ∃ cs', w.cells? base (a.add (i * sz)) sz = some cs' ∧ GotL w fs cs') : Got w (.sl agg fs) (.slice (some a) len cap) := by
 subst hsz
 have h' : ∀ i : Nat, ∃ p : List AV × List Value, i < len → (w.cells? base (a.add (i * fs.length)) fs.length = some p.2 ∧ IsL fs p.1 ∧ z03 (MS.start w) p.1 p.2 ∧ z0h p.1 = true ∧ z4t p.1 = true) := by
   intro i
   by_cases hi : i < len
   · obtain ⟨cs', h1, xs, h2, h3, h4, h5⟩ := h i hi
     exact ⟨(xs, cs'), fun _ => ⟨h1, h2, h3, h4, h5⟩⟩
   · exact ⟨([], []), fun h => absurd h hi⟩
 obtain ⟨p, hp⟩ := Classical.axiomOfChoice h'
 let E : List AV → AV := fun cs => if agg then .agg cs else cs.headD .any
 let V : List Value → Value := fun cs => if agg then .agg cs.toArray else cs.headD undef
 let xs : List AV := (List.range len).map fun i => E (p i).1
 let vs : List Value := (List.range len).map fun i => V (p i).2
 have hone : ∀ i, i < len → (V (p i).2).cells.toList = (p i).2 ∧ VRel (MS.start w) (E (p i).1) (V (p i).2) ∧ (E (p i).1).pure = true := by
   intro i hi
   obtain ⟨q1, q2, q3, q4, q5⟩ := hp i hi
   have hl1 : (p i).1.length = fs.length := zug q2
   cases agg with
   | true => exact ⟨by simp [V, Value.cells], ⟨_, rfl, q3⟩, by simp [E, AV.pure, q4]⟩
   | false =>
     have h1 := hagg rfl
     rw [h1] at hl1
     match hc : (p i).1, (p i).2, q3, q4, q5, hl1 with
     | [c], [v], ⟨v', r, hv, hr, hr2⟩, q4, q5, _ =>
       cases hv
       have hno : c.one = true := by simpa [z4t] using q5
       have hcc : c.cells = [c] := by cases c <;> first | rfl | (simp [AV.one] at hno)
       have hca : c.isAny = false := by cases c <;> first | rfl | (simp [AV.one] at hno)
       have hcl := VRel.cells hca hr
       rw [hcc] at hcl
       obtain ⟨u, r2, hu, hu2, hu3⟩ := hcl
       rw [show r2 = [] from hu3] at hu
       have hv1 : v.cells.toList = [v] := by
         have := one_cell hr hno
         cases v <;> first | rfl | (simp [Value.oneCell'] at this)
       exact ⟨by simpa [V] using hv1, by simpa [E, V] using hr, by simpa [E, z0h] using q4⟩
 have hxl : xs.length = len := by simp [xs]
 have hvl : vs.length = len := by simp [vs]
 have hxi : ∀ i, i < len → xs[i]? = some (E (p i).1) := fun i hi => by simp [xs, hi]
 have hvi : ∀ i, i < len → vs[i]? = some (V (p i).2) := fun i hi => by simp [vs, hi]
 have hvs : z03 (MS.start w) xs vs := z03.of_get (by rw [hxl, hvl]) fun i x v hx hv => by
   have hi : i < len := by rw [← hxl]; exact (List.getElem?_eq_some_iff.1 hx).1
   rw [hxi i hi] at hx
   rw [hvi i hi] at hv
   cases hx; cases hv
   exact (hone i hi).2.1
 have hpu : z0h xs = true := z2q.2 fun x hx => by
   obtain ⟨i, hi, rfl⟩ := List.mem_map.1 hx
   exact (hone i (List.mem_range.1 hi)).2.2
 refine ⟨.lst fs.length xs, .inr ⟨xs, rfl, by rw [hxl]; omega, fun y hy => ?_⟩, ⟨hpu, hpos, some a, cap, vs, by rw [hxl], ⟨by rw [hxl]; exact hlc, fun hn => by cases hn⟩, hvs, fun hne => ?_⟩, by simpa [AV.pure] using hpu, rfl⟩
 · obtain ⟨i, hi, rfl⟩ := List.mem_map.1 hy
   exact ⟨_, rfl, (hp i (List.mem_range.1 hi)).2.1⟩
 · have h0 : 0 < len := by rw [← hxl]; exact List.length_pos_iff.2 hne
   obtain ⟨b, o, spot⟩ := a
   have hcell : ∀ i, i < len → ∀ j, j < fs.length → w.cell? ((⟨b, o, spot⟩ : Addr).add (i * fs.length + j)) = (p i).2[j]? := fun i hi j hj => by
     obtain ⟨_, _, hat⟩ := World.cells?_some (hp i hi).1
     rw [← hat j hj, ← Go.Deep.add_add]
   have hlen2 : ∀ i, i < len → (p i).2.length = fs.length := fun i hi => (World.cells?_some (hp i hi).1).2.1
   have hc0 := hcell 0 h0 0 hpos
   rw [List.getElem?_eq_getElem (by rw [hlen2 0 h0]; exact hpos)] at hc0
   have hspot : spot = none := by simpa [Addr.add] using World.cell?_spot hc0
   subst hspot
   have hbk : ∀ k : Nat, ((⟨b, o, none⟩ : Addr).add k).block = b := fun k => by unfold Addr.add; split <;> rfl
   refine ⟨b, o, rfl, by have := zlq hc0; rwa [hbk] at this, fun i v hv => ?_⟩
   have hi : i < len := by rw [← hvl]; exact (List.getElem?_eq_some_iff.1 hv).1
   rw [hvi i hi] at hv
   cases hv
   obtain ⟨e1, _, _⟩ := hone i hi
   have e1' : (V (p i).2).cells = (p i).2.toArray := by simpa using congrArg List.toArray e1
   obtain ⟨_, q2, q3, _, q5⟩ := hp i hi
   refine ⟨by rw [e1']; simp [hlen2 i hi], fun c hc => ?_, fun j hj => ?_⟩
   · rw [e1'] at hc
     exact zc8 q3 q5 c (by simpa using hc)
   · rw [e1']
     have := hcell i hi j hj
     have ea : (⟨b, o, none⟩ : Addr).add (i * fs.length + j) = ⟨b, o + i * fs.length + j, none⟩ := by
       unfold Addr.add
       split
       · rename_i hz
         have : i * fs.length = 0 ∧ j = 0 := by simpa using hz
         rw [this.1, this.2]
         rfl
       · simp [Nat.add_assoc]
     rw [ea] at this
     refine this.trans ?_
     simp
theorem zcs : ∀ {fs : List Sh} {i : Nat} {fl : List Field}, zem P fs i fl = true → fl.length = fs.length
 | [], _, [], _ => rfl
 | [], _, _ :: _, h => by simp [zem] at h
 | _ :: _, _, [], h => by simp [zem] at h
 | s :: fs, i, f :: fl, h => by
   simp only [zem, Bool.and_eq_true] at h
   simp [zcs h.2]
mutual
theorem y4l : ∀ (s : Sh) {t : TypeId} {fuel : Nat} {v : Value} {d : DataW H × List MemPlace}, zel P s t = true → DataW.trod enc P w base spare held fuel t [v] = some d → Got w s v
 | .bool, t, fuel, v, d, hf, h => by
   cases fuel with
   | zero => simp [DataW.trod] at h
   | succ n =>
     simp only [zel] at hf
     split at hf
     · rename_i ht
       unfold DataW.trod at h
       rw [ht] at h
       cases v <;> simp at h
       rename_i b
       exact ⟨.bool b, ⟨b, rfl⟩, rfl, rfl, rfl⟩
     · cases hf
 | .int k, t, fuel, v, d, hf, h => by
   cases fuel with
   | zero => simp [DataW.trod] at h
   | succ n =>
     simp only [zel] at hf
     split at hf
     · rename_i k' ht
       obtain rfl : k' = k := by simpa using hf
       unfold DataW.trod at h
       rw [ht] at h
       cases v <;> simp at h
       rename_i k2 m
       obtain ⟨⟨rfl, hw⟩, _⟩ := h
       exact ⟨.int k2 m, ⟨m, rfl, hw⟩, rfl, rfl, rfl⟩
     · cases hf
 | .str, t, fuel, v, d, hf, h => by
   cases fuel with
   | zero => simp [DataW.trod] at h
   | succ n =>
     simp only [zel] at hf
     split at hf
     · rename_i ht
       unfold DataW.trod at h
       rw [ht] at h
       cases v <;> simp at h
       rename_i s
       exact ⟨.str s.data.toList, ⟨_, rfl, by simpa using h.1⟩, rfl, rfl, rfl⟩
     · cases hf
 | .sl agg fs, t, fuel, v, d, hf, h => by
   simp only [zel] at hf
   split at hf
   · rename_i e ht
     simp only [Bool.and_eq_true, beq_iff_eq, Bool.not_eq_true', List.isEmpty_eq_false_iff] at hf
     obtain ⟨⟨hsz, hne⟩, hfe⟩ := hf
     have hpos : 0 < fs.length := List.length_pos_iff.2 hne
     rcases Go.Deep.open_slice ht h with ⟨hv, _⟩ | ⟨a, len, cap, m, n, D, Pl, hv, hb, hl, hm, hmm, hx, hi⟩
     · cases hv
       exact ⟨.nilS, .inl rfl, rfl, rfl, rfl⟩
     · cases hv
       have hlm : len ≤ m := by rw [hmm]; split <;> omega
       have hag : agg = false → fs.length = 1 := fun ha => by
         subst ha
         simp only [Bool.and_eq_true, beq_iff_eq] at hfe
         exact hfe.1
       refine y4k (base := base) hsz hpos hag hl hm fun i hil => ?_
       obtain ⟨cs', hc, ht'⟩ := hi i (by omega)
       refine ⟨cs', hc, ?_⟩
       have hcl := (World.cells?_some hc).2.1
       cases agg with
       | true =>
         split at hfe
         · rename_i fl _ he
           obtain ⟨ys, n', _, _, _, hlen, hg⟩ := DataW.trod_struct he ht'
           have hfl := zcs hfe
           exact y4m fs (fl := fl.toList) (i := 0) (cs := cs') hfe (by rw [hcl, hsz]; omega) fun j f hj => by
             have := hg j f (by simpa using hj)
             have hj2 : j < ys.length := by rw [hlen]; have := (List.getElem?_eq_some_iff.1 hj).1; simpa using this
             rw [List.getElem?_eq_getElem hj2] at this
             exact ⟨n', _, this, rfl⟩
         · rename_i n2 u _ he
           simp only [Bool.and_eq_true, beq_iff_eq] at hfe
           obtain ⟨⟨hn, hu⟩, hfa⟩ := hfe
           obtain ⟨ys, n', _, _, hlen, hyl, hg⟩ := DataW.trod_array he ht'
           refine y4n fs (u := u) (cs := cs') (i := 0) hfa (by omega) fun j hj => ?_
           have h1 := hg j (by omega)
           rw [hu, Nat.mul_one] at h1
           have h2 : ys[j]? = some (ys[j]'(by omega)) := List.getElem?_eq_getElem (by omega)
           rw [h2] at h1
           exact ⟨n', _, by rw [Nat.zero_add]; exact h1⟩
         · rename_i hh; cases hh
         · cases hfe
       | false =>
         simp only [Bool.and_eq_true, beq_iff_eq] at hfe
         refine y4n fs (u := e) (cs := cs') (i := 0) hfe.2 (by omega) fun j hj => ?_
         obtain rfl : j = 0 := by omega
         exact ⟨n, _, by rw [List.drop_zero, List.take_of_length_le (by omega)]; exact ht'⟩
   · cases hf
theorem y4m : ∀ (fs : List Sh) {fl : List Field} {i : Nat} {cs : List Value}, zem P fs i fl = true → cs.length = i + fs.length →
   (∀ (j : Nat) (f : Field), fl[j]? = some f → ∃ n y, DataW.trod enc P w base spare held n f.type ((cs.drop f.offset).take (P.cellsOf f.type)) = y ∧ y.isSome = true) → GotL w fs (cs.drop i)
 | [], fl, i, cs, hf, hl, h => by
   rw [List.drop_of_length_le (by rw [hl]; simp)]
   exact zny
 | s :: fs, fl, i, cs, hf, hl, h => by
   cases fl with
   | nil => simp [zem] at hf
   | cons f fl =>
     simp only [zem, Bool.and_eq_true, beq_iff_eq] at hf
     obtain ⟨⟨⟨ho, hc⟩, hs⟩, hr⟩ := hf
     have hi : i < cs.length := by rw [hl]; simp
     rw [List.drop_eq_getElem_cons hi]
     obtain ⟨n, y, h1, h2⟩ := h 0 f rfl
     obtain ⟨d, rfl⟩ := Option.isSome_iff_exists.1 h2
     rw [ho, hc, List.drop_eq_getElem_cons hi, List.take_succ_cons, List.take_zero] at h1
     refine zj3 (y4l s hs h1) (y4m fs hr (by rw [hl]; simp; omega) fun j g hj => h (j + 1) g (by simpa using hj))
theorem y4n : ∀ (fs : List Sh) {u : TypeId} {i : Nat} {cs : List Value}, zuh P fs u = true → cs.length = i + fs.length →
   (∀ j, j < fs.length → ∃ n d, DataW.trod enc P w base spare held n u ((cs.drop (i + j)).take 1) = some d) → GotL w fs (cs.drop i)
 | [], u, i, cs, hf, hl, h => by
   rw [List.drop_of_length_le (by rw [hl]; simp)]
   exact zny
 | s :: fs, u, i, cs, hf, hl, h => by
   simp only [zuh, Bool.and_eq_true] at hf
   have hi : i < cs.length := by rw [hl]; simp
   rw [List.drop_eq_getElem_cons hi]
   obtain ⟨n, d, h1⟩ := h 0 (by simp)
   rw [Nat.add_zero, List.drop_eq_getElem_cons hi, List.take_succ_cons, List.take_zero] at h1
   refine zj3 (y4l s hf.1 h1) (y4n fs hf.2 (by rw [hl]; simp; omega) fun j hj => ?_)
   have := h (j + 1) (by simp; omega)
   rwa [show i + (j + 1) = i + 1 + j by omega] at this
end
end
open Go.RowKit Go.ChangeShapes Go.WideShapes
inductive PSh where
 | cell (s : Sh)
 | rcd (fs : List Sh)
def IsP : PSh → AV → Prop
 | .cell s, x => Is s x
 | .rcd fs, x => ∃ cs, x = .agg cs ∧ IsL fs cs
def IsPs : List PSh → List AV → Prop
 | [], xs => xs = []
 | p :: ps, xs => ∃ x r, xs = x :: r ∧ IsP p x ∧ IsPs ps r
def y4o (P : Program) : PSh → TypeId → Bool
 | .cell s, t => zel P s t
 | .rcd fs, t => match P.underlying t with
   | some (.struct fl) => P.cellsOf t == fs.length && zem P fs 0 fl.toList
   | _ => false
def zff (P : Program) : List PSh → List TypeId → Bool
 | [], [] => true
 | p :: ps, t :: ts => y4o P p t && zff P ps ts
 | _, _ => false
section
variable {H : Type} {enc : TypeId × Value → H} {P : Program} {w : World} {spare : Nat → Bool} {held : Bool}
theorem zlr {s : Sh} {t : TypeId} {r : Reach} {b0 : Nat} {v : Value} (hf : zel P s t = true) (h : Value.okWide P w r b0 t v) : v.cells.toList = [v] := by
 cases s <;> simp only [zel] at hf <;> split at hf <;> first | (cases hf; done) | skip
 · obtain ⟨b, rfl⟩ := okWide_bool ‹_› h; rfl
 · obtain ⟨b, rfl⟩ := okWide_int ‹_› h; rfl
 · obtain ⟨b, rfl⟩ := okWide_string ‹_› h; rfl
 · obtain ⟨a, l, c, rfl⟩ := okWide_slice ‹_› h; rfl
theorem y4p {p : PSh} {t : TypeId} {r : Reach} {b0 : Nat} {v : Value} {d : DataW H} {ps : List MemPlace} (hf : y4o P p t = true) (hw : Value.okWide P w r b0 t v) (h : DataW.Trod enc P w 0 spare held t v d ps) : ∃ x, IsP p x ∧ VRel (MS.start w) x v := by
 obtain ⟨fuel, h⟩ := h
 cases p with
 | cell s =>
   rw [zlr hf hw] at h
   obtain ⟨x, h1, h2, _⟩ := y4l s hf h
   exact ⟨x, h1, h2⟩
 | rcd fs =>
   simp only [y4o] at hf
   split at hf
   · rename_i fl ht
     simp only [Bool.and_eq_true, beq_iff_eq] at hf
     obtain ⟨cs, rfl, hc⟩ := okWide_struct ht hw
     obtain ⟨ys, n', _, _, _, hlen, hg⟩ := DataW.trod_struct ht h
     have hfl := zcs hf.2
     obtain ⟨xs, h1, h2, _⟩ := y4m fs (fl := fl.toList) (i := 0) (cs := cs.toList) hf.2 (by simp; omega) fun j f hj => by
       have := hg j f (by simpa using hj)
       have hj2 : j < ys.length := by rw [hlen]; have := (List.getElem?_eq_some_iff.1 hj).1; simpa using this
       rw [List.getElem?_eq_getElem hj2] at this
       exact ⟨n', _, this, rfl⟩
     exact ⟨.agg xs, ⟨xs, rfl, h1⟩, cs.toList, by simp, by simpa using h2⟩
   · cases hf
theorem znz : ∀ {ps : List PSh} {ts : List TypeId} {vs : List Value} {ds : List (DataW H)} {q : List MemPlace} {r : Reach} {b0 : Nat}, zff P ps ts = true → (∀ (j : Nat) t v, ts[j]? = some t → vs[j]? = some v → Value.okWide P w r b0 t v) →
   DataW.TrodAll enc P w 0 spare held ts vs ds q → ∃ xs, IsPs ps xs ∧ z03 (MS.start w) xs vs
 | [], [], [], [], _, _, _, _, _, _ => ⟨[], rfl, rfl⟩
 | p :: ps, t :: ts, v :: vs, d :: ds, _, _, _, hf, hw, ⟨a, b, h1, h2, _⟩ => by
   simp only [zff, Bool.and_eq_true] at hf
   obtain ⟨x, k1, k2⟩ := y4p hf.1 (hw 0 t v rfl rfl) h1
   obtain ⟨xs, k3, k4⟩ := znz hf.2 (fun j t v ht hv => hw (j + 1) t v (by simpa using ht) (by simpa using hv)) h2
   exact ⟨x :: xs, ⟨x, xs, rfl, k1, k3⟩, v, vs, rfl, k2, k4⟩
 | [], _ :: _, _, _, _, _, _, hf, _, _ => by simp [zff] at hf
 | _ :: _, [], _, _, _, _, _, hf, _, _ => by simp [zff] at hf
 | [], [], _ :: _, _, _, _, _, _, _, h => h.elim
 | [], [], [], _ :: _, _, _, _, _, _, h => h.elim
 | _ :: _, _ :: _, [], _, _, _, _, _, _, h => by cases ‹List (DataW H)› <;> exact h.elim
 | _ :: _, _ :: _, _ :: _, [], _, _, _, _, _, h => h.elim
def zui (P : Program) (ts : List TypeId) : Bool := ts.all fun t => P.readableRec t && decide (t < P.types.size)
theorem zct {W W' : World} (hl : laidOutB P = true) (hb : Below W.heap.size W W') : ∀ {ts : List TypeId} {vs : List Value} {ds : List (DataW H)} {ps : List MemPlace}, zui P ts = true → (∀ x ∈ ps, x.block < W.heap.size) →
   DataW.TrodAll enc P W 0 (fun _ => true) true ts vs ds ps → DataW.TrodAll enc P W' 0 (fun b => decide (b < W.heap.size)) true ts vs ds ps
 | [], [], [], _, _, _, h => h
 | t :: ts, v :: vs, d :: ds, _, hr, hlt, ⟨a, b, h1, h2, e⟩ => by
   subst e
   simp only [zui, List.all_cons, Bool.and_eq_true, decide_eq_true_eq] at hr
   exact ⟨a, b, Below.trod hl hr.1.1 hr.1.2 h1 hb (fun x hx => hlt x (List.mem_append_left _ hx)), zct hl hb (by simpa [zui] using hr.2) (fun x hx => hlt x (List.mem_append_right _ hx)) h2, rfl⟩
 | [], [], _ :: _, _, _, _, h => h.elim
 | [], _ :: _, _, _, _, _, h => by cases ‹List (DataW H)› <;> exact h.elim
 | _ :: _, [], _, _, _, _, h => by cases ‹List (DataW H)› <;> exact h.elim
 | _ :: _, _ :: _, [], _, _, _, h => h.elim
theorem zj4 {f : Nat} {ps : List PSh} {ts : List TypeId} (hf : zff P ps ts = true) (h : ∀ xs, IsPs ps xs → PC P f xs (.bool true)) {args : Array Value} {ds : List (DataW H)} {q : List MemPlace} {r : Reach} {b0 : Nat}
   (hw : ∀ (j : Nat) t v, ts[j]? = some t → args.toList[j]? = some v → Value.okWide P w r b0 t v) (hA : DataW.TrodAll enc P w 0 spare held ts args.toList ds q) :
   Calls P f args w fun e w' => e = .returned (.bool true) ∧ Below w.heap.size w w' := by
 obtain ⟨xs, h1, h2⟩ := znz hf hw hA
 have := (h xs h1).below h2
 simpa using this
end
mutual
def valOf : AV → Value
 | .int k a => .int k a
 | .bool b => .bool b
 | .agg xs => .agg (y18 xs).toArray
 | _ => undef
def y18 : List AV → List Value
 | [] => []
 | x :: xs => valOf x :: y18 xs
end
def Flat (x : AV) : Prop := ∀ S : MS, VRel S x (valOf x)
abbrev encI (r : List AV) : Array Value := (r.map valOf).toArray
def Clo (J : Nat → (Nat → Prop) → World → Prop) : Prop :=
 ∀ k O W W', J k O W → W'.os = W.os → W'.tape = W.tape → W'.output = W.output → W.heap.size ≤ W'.heap.size →
   (∀ b, b < W.heap.size → ¬ O b → W'.heap[b]? = W.heap[b]?) → J k (fun b => O b ∨ (W.heap.size ≤ b ∧ b < W'.heap.size)) W'
def zo0 (P : Program) (gf : Nat) (caps : List AV) (rows : List (List AV)) : Prop :=
 Enters P gf ∧ ∀ (m l : Nat) (S : MS) (lb : List Value) (J Jx : Nat → (Nat → Prop) → World → Prop),
   SRel S z02.nil → z03 S caps lb → Clo J → Clo Jx → J 0 (fun _ => False) S.w →
   (∀ k O W, J k O W ∨ Jx k O W → (∀ b, S.im b → ¬ O b ∧ W.heap[b]? = S.w.heap[b]?) ∧ (W.os = S.w.os ∧ W.tape = S.w.tape ∧ W.output = S.w.output) ∧ S.w.heap.size ≤ W.heap.size ∧ ∀ b, O b → S.w.heap.size ≤ b ∧ b < W.heap.size) →
   (∀ k row O W, rows[k]? = some row → J k O W → YieldAt Fence.wide m P l (encI row) W fun e W' => W.heap.size ≤ W'.heap.size ∧ (∀ b, O b → W'.heap[b]? = W.heap[b]?) ∧ (e = .returned (.bool true) ∧ J (k + 1) O W' ∨ e = .returned (.bool false) ∧ Jx (k + 1) O W')) →
   CallsIn Fence.wide (m + 1) P gf (#[.func (.yield l) #[] #[]] ++ lb.toArray) S.w fun e W' => (∃ v, e = .returned v) ∧ ((∃ O, J rows.length O W') ∨ ∃ k O, Jx k O W')
def setL : Env → List Nat → List AV → Env
 | env, p :: ps, x :: r => setL (env.put (some p) x) ps r
 | env, _, _ => env
section
variable {P : Program} {n b : Nat} {env : Env} {H : z02} {Q : Ex → Env → z02 → Prop}
theorem SRel.turn2 {S S' : MS} {H : z02} (h : SRel S H) (hw : ∀ b, S.im b → S'.w.heap[b]? = S.w.heap[b]?) (hi : S'.im = S.im) (hn : S'.n = S.n) (hc : S'.cur = S.cur) (hp : S'.place = S.place) (hcap : S'.cap = S.cap) (hwid : S'.wid = S.wid)
   (hk : ∀ b, S'.keep b → S.keep b ∨ S.w.heap.size ≤ b) (hkb : ∀ b, S'.keep b → b < S'.w.heap.size) (hg : ∀ b, ¬ (S.im b ∨ S.keep b) → b < S.w.heap.size → S'.w.heap[b]? = S.w.heap[b]?) (hsz : S.w.heap.size ≤ S'.w.heap.size) : SRel S' H := by
 have ev := Evi.of hw hi hn hc hp hcap hwid
 refine ⟨hn.trans h.n, fun g hgn => ?_, fun g g' h1 h2 h3 h4 h5 => ?_, fun b hb => ?_⟩
 · have hG := h.grp g hgn
   have hni : ¬ (S.im (S.place g) ∨ S.keep (S.place g)) → S.place g < S.w.heap.size → ¬ (S'.im (S'.place g) ∨ S'.keep (S'.place g)) := fun hn hlt hh => by
     rw [hi, hp] at hh
     rcases hh with hh | hh
     · exact hn (.inl hh)
     · rcases hk _ hh with hh | hh
       · exact hn (.inr hh)
       · omega
   refine ⟨by rw [hc]; exact hG.ver, by rw [hwid]; exact hG.wid, fun hw0 hc0 => ?_, fun hw0 => by rw [hcap]; exact hG.len hw0, fun hw0 he => by rw [hcap]; exact hG.full hw0 he, fun hw0 he => ?_⟩
   · rw [hcap] at hc0 ⊢
     obtain ⟨⟨cells, T, vs, a1, a2, a3, a4⟩, a5⟩ := hG.live hw0 hc0
     exact ⟨⟨cells, T, vs, by rw [hp, hg _ a5 (hG.lt hw0 hc0)]; exact a1, a2, z03.moni ev _ a3, a4⟩, hni a5 (hG.lt hw0 hc0)⟩
   · obtain ⟨⟨es, clock, a1, a2⟩, a5⟩ := hG.mlive hw0 he
     exact ⟨⟨es, clock, by rw [hp, hg _ a5 (hG.mlt hw0 he)]; exact a1, z03.moni ev _ a2⟩, hni a5 (hG.mlt hw0 he)⟩
 · rw [hp]
   rw [hcap] at h4 h5
   exact h.apart g g' h1 h2 h3 h4 h5
 · rcases hb with hb | hb
   · rw [hi] at hb; exact Nat.lt_of_lt_of_le (h.im b (.inl hb)) hsz
   · exact hkb b hb
theorem zo1 {S : MS} {ds : List Deferred} (hd : Marks S ds) : ∀ {ps : List Nat} {row : List AV} {env : Env} {tmps : Array Value} {ds' : List Deferred}, FRel S n env { tmps := tmps, defers := ds' } → (∀ p ∈ ps, p < n) → (∀ x ∈ row, Flat x) →
   FRel S n (setL env ps row) { tmps := (ps.zip (row.map valOf)).foldl (fun t (p, v) => t.setIfInBounds p v) tmps, defers := ds }
 | [], row, env, tmps, _, hF, _, _ => by
   rw [show setL env [] row = env from by cases row <;> rfl]
   exact ⟨hF.size, hd, hF.val⟩
 | p :: ps, [], env, tmps, _, hF, _, _ => ⟨hF.size, hd, hF.val⟩
 | p :: ps, x :: row, env, tmps, ds', hF, hp, hx => by
   have := hF.put (dst := some p) (by simpa using hp p (by simp)) (x := x) (v := valOf x) (hx x (by simp) S)
   exact zo1 hd (ps := ps) (row := row) this (fun q hq => hp q (by simp [hq])) (fun y hy => hx y (by simp [hy]))
def codeOf : Ex → Code
 | .normal => .skip
 | .exit id => .exit id
 | .ret => .ret
structure Lo (S : MS) (rec : LoopState → Option Code → Loop) (W1 : Nat) (st : LoopState) (pe : Option Code) (O : Nat → Prop) (S' : MS) (H' : z02) : Prop where
 evo : Evo S S'
 rel : SRel S' H'
 own : ∀ b, O b → S'.keep b ∧ ¬ S'.im b ∧ W1 ≤ b ∧ b < S'.w.heap.size
 size : W1 ≤ S'.w.heap.size
 loop : S'.w.heap[S.w.heap.size + 1]? = some (.loop (rec st pe))
 defd : S'.w.heap[S.w.heap.size]? = some (.deferred (some []))
 k1 : S'.keep S.w.heap.size ∧ ¬ S'.im S.w.heap.size
 k2 : S'.keep (S.w.heap.size + 1) ∧ ¬ S'.im (S.w.heap.size + 1)
theorem Lo.clo {S S' : MS} {rec : LoopState → Option Code → Loop} {st : LoopState} {pe : Option Code} {O : Nat → Prop} {H' : z02} (hS : ∀ b, S.im b ∨ S.keep b → b < S.w.heap.size) (h : Lo S rec (S.w.heap.size + 2) st pe O S' H') {W' : World}
   (h1 : W'.os = S'.w.os) (h2 : W'.tape = S'.w.tape) (h3 : W'.output = S'.w.output) (h4 : S'.w.heap.size ≤ W'.heap.size) (h5 : ∀ b, b < S'.w.heap.size → ¬ O b → W'.heap[b]? = S'.w.heap[b]?) :
   ∃ S'' : MS, S''.w = W' ∧ Lo S rec (S.w.heap.size + 2) st pe (fun b => O b ∨ (S'.w.heap.size ≤ b ∧ b < W'.heap.size)) S'' H' := by
 obtain ⟨S'', hd⟩ : ∃ S'' : MS, S'' = { S' with w := W', keep := fun b => S'.keep b ∨ (S'.w.heap.size ≤ b ∧ b < W'.heap.size) } := ⟨_, rfl⟩
 have him : ∀ b, S'.im b → b < S'.w.heap.size := fun b hb => h.rel.im b (.inl hb)
 have hio : ∀ b, S'.im b → ¬ O b := fun b hb ho => (h.own b ho).2.1 hb
 have hlt : ∀ b, S.im b ∨ S.keep b → ¬ O b := fun b hb ho => by have := (h.own b ho).2.2.1; have := hS b hb; omega
 have hsz := h.size
 refine ⟨S'', by rw [hd], ?_⟩
 have hrel : SRel S'' H' := by
   subst hd
   exact h.rel.turn2 (fun b hb => h5 b (him b hb) (hio b hb)) rfl rfl rfl rfl rfl rfl (fun b hb => hb.imp id And.left) (fun b hb => hb.elim (fun hh => Nat.lt_of_lt_of_le (h.rel.im b (.inr hh)) h4) And.right)
     (fun b hb hl => h5 b hl (fun ho => hb (.inr (h.own b ho).1))) h4
 have hevo : Evo S S'' := by
   have e := h.evo
   subst hd
   refine ⟨e.base, h1.trans e.os, h2.trans e.tape, h3.trans e.output, Nat.le_trans e.size h4, fun b hb => ?_, e.im, fun b hb => .inl (e.keep b hb), e.fresh, e.n, e.cur, e.same⟩
   exact (h5 b (Nat.lt_of_lt_of_le (hS b hb) e.size) (hlt b hb)).trans (e.kept b hb)
 have hw : S''.w = W' := by rw [hd]
 have hkeep : S''.keep = fun b => S'.keep b ∨ (S'.w.heap.size ≤ b ∧ b < W'.heap.size) := by rw [hd]
 have himm : S''.im = S'.im := by rw [hd]
 have hnO : ∀ b, b < S.w.heap.size + 2 → ¬ O b := fun b hb ho => by have := (h.own b ho).2.2.1; omega
 refine ⟨hevo, hrel, fun b hb => ?_, by rw [hw]; omega, ?_, ?_, ?_, ?_⟩
 · rw [hkeep, himm, hw]
   rcases hb with hb | ⟨hb1, hb2⟩
   · obtain ⟨q1, q2, q3, q4⟩ := h.own b hb
     exact ⟨.inl q1, q2, q3, by omega⟩
   · exact ⟨.inr ⟨hb1, hb2⟩, fun hi => by have := him b hi; omega, by omega, hb2⟩
 · rw [hw, h5 _ (by omega) (hnO _ (by omega))]; exact h.loop
 · rw [hw, h5 _ (by omega) (hnO _ (by omega))]; exact h.defd
 · rw [hkeep, himm]; exact ⟨.inl h.k1.1, h.k1.2⟩
 · rw [hkeep, himm]; exact ⟨.inl h.k2.1, h.k2.2⟩
theorem Lo.turn {S S' : MS} {rec : LoopState → Option Code → Loop} {st : LoopState} {pe : Option Code} {O : Nat → Prop} {H' : z02} (hS : ∀ b, S.im b ∨ S.keep b → b < S.w.heap.size) (h : Lo S rec (S.w.heap.size + 2) st pe O S' H') (st' : LoopState) (pe' : Option Code) :
   ∃ S'' : MS, S''.w = S'.w.putObj (S.w.heap.size + 1) (.loop (rec st' pe')) ∧ Lo S rec (S.w.heap.size + 2) st' pe' O S'' H' ∧ Evi S' S'' ∧ S''.n = S'.n ∧ S''.base = S'.base ∧ S''.keep = S'.keep ∧ S''.im = S'.im := by
 obtain ⟨S'', hd⟩ : ∃ S'' : MS, S'' = { S' with w := S'.w.putObj (S.w.heap.size + 1) (.loop (rec st' pe')) } := ⟨_, rfl⟩
 have hne : ∀ b, S'.im b → b ≠ S.w.heap.size + 1 := fun b hb hh => h.k2.2 (hh ▸ hb)
 have hsz := h.size
 have hw : S''.w = S'.w.putObj (S.w.heap.size + 1) (.loop (rec st' pe')) := by rw [hd]
 refine ⟨S'', hw, ⟨?_, ?_, fun b hb => ?_, by rw [hw, World.putObj_size]; exact hsz, ?_, ?_, ?_, ?_⟩, ?_, by rw [hd], by rw [hd], by rw [hd], by rw [hd]⟩
 · have e := h.evo
   subst hd
   refine ⟨e.base, e.os, e.tape, e.output, by show _ ≤ (World.putObj _ _ _).heap.size; rw [World.putObj_size]; exact e.size, fun b hb => ?_, e.im, e.keep, e.fresh, e.n, e.cur, e.same⟩
   show (World.putObj _ _ _).heap[b]? = _
   rw [World.putObj_heap_other (by have := hS b hb; omega)]
   exact e.kept b hb
 · subst hd
   refine h.rel.turn (fun b hb => World.putObj_heap_other (hne b hb)) rfl rfl rfl rfl rfl rfl (fun _ h => h) (fun b hb _ => World.putObj_heap_other fun hh => hb (.inr (hh ▸ h.k2.1))) (by show _ ≤ (World.putObj _ _ _).heap.size; rw [World.putObj_size]; exact Nat.le_refl _)
 · obtain ⟨q1, q2, q3, q4⟩ := h.own b hb
   rw [hd]
   exact ⟨q1, q2, q3, by show _ < (World.putObj _ _ _).heap.size; rw [World.putObj_size]; exact q4⟩
 · rw [hw]; exact World.putObj_heap_same (by omega)
 · rw [hw, World.putObj_heap_other (by omega)]; exact h.defd
 · rw [hd]; exact h.k1
 · rw [hd]; exact h.k2
 · subst hd
   exact Evi.of (fun b hb => World.putObj_heap_other (hne b hb)) rfl rfl rfl rfl rfl rfl
theorem Lo.on {S S' S2 : MS} {rec : LoopState → Option Code → Loop} {W1 : Nat} {st : LoopState} {pe : Option Code} {O : Nat → Prop} {H' H2 : z02} (h : Lo S rec W1 st pe O S' H') (e : BEvo S.n S' S2) (hr : SRel S2 H2) : Lo S rec W1 st pe O S2 H2 ∧ ∀ b, O b → S2.w.heap[b]? = S'.w.heap[b]? := by
 have hk : ∀ b, S'.keep b → ¬ S'.im b → S2.keep b ∧ ¬ S2.im b ∧ S2.w.heap[b]? = S'.w.heap[b]? := fun b h1 h2 => ⟨e.keep b h1, fun hi => (e.fresh b hi).elim h2 (fun hh => hh h1), e.kept b (.inr h1)⟩
 refine ⟨⟨((h.evo.down (Nat.le_refl _)).trans e).up, hr, fun b hb => ?_, Nat.le_trans h.size e.size, ?_, ?_, ?_, ?_⟩, fun b hb => ?_⟩
 · obtain ⟨q1, q2, q3, q4⟩ := h.own b hb
   obtain ⟨r1, r2, _⟩ := hk b q1 q2
   exact ⟨r1, r2, q3, Nat.lt_of_lt_of_le q4 e.size⟩
 · rw [(hk _ h.k2.1 h.k2.2).2.2]; exact h.loop
 · rw [(hk _ h.k1.1 h.k1.2).2.2]; exact h.defd
 · obtain ⟨r1, r2, _⟩ := hk _ h.k1.1 h.k1.2; exact ⟨r1, r2⟩
 · obtain ⟨r1, r2, _⟩ := hk _ h.k2.1 h.k2.2; exact ⟨r1, r2⟩
 · obtain ⟨q1, q2, _, _⟩ := h.own b hb
   exact (hk b q1 q2).2.2
theorem T_rng {f : AArg} {ps : List Nat} {asg body : AC} {gf : Nat} {caps : List AV} (hf : f.eval env = .fn gf caps) (hpure : z0h caps = true) (hfr1 : asg.free = true) (hfr2 : body.free = true) {rows : List (List AV)} (hit : zo0 P gf caps rows) (hfl : ∀ r ∈ rows, ∀ x ∈ r, Flat x)
   (hps : ∀ r ∈ rows, r.length = ps.length) (hpn : ∀ p ∈ ps, p < n) (Inv : Nat → z02 → Prop) (Qx : Ex → z02 → Prop) (h0 : Inv 0 H) (hn : ∀ k H', Inv k H' → H'.n = H.n) (hnx : ∀ x H', Qx x H' → H'.n = H.n)
   (round : ∀ k row H1, rows[k]? = some row → Inv k H1 → T P n H.n asg (setL env ps row) H1 (fun x env1 H2 => x = .normal ∧ T P n H.n body env1 H2 (fun x _ H3 => (x = .normal ∧ Inv (k + 1) H3) ∨ (x ≠ .normal ∧ Qx x H3))))
   (done : ∀ H1, Inv rows.length H1 → Q .normal env H1) (out : ∀ x H1, Qx x H1 → Q x env H1) : T P n b (.rng f ps asg body) env H Q := T_of fun rd mm hrd code hc hs S a hb hS hF => by
 obtain rfl : rd = none := by
   rcases hrd with h | h
   · cases h
   · exact h
 cases code <;> simp only [z2z, reduceCtorEq, Option.some.injEq] at hc
 case rangeFunc g pps asgc bodyc =>
   split at hc
   · rename_i z x y hz hx hy
     cases hc
     have hSim := hS.im
     have hv := zgr hF hz
     rw [hf] at hv
     obtain ⟨lb, hgv, hlb⟩ := hv
     obtain ⟨hent, hit⟩ := hit
     have hFn : S.n = H.n := hS.n
     refine wpIn_rangeFunc (F := fen none) fun fn _ => ?_
     obtain ⟨rec, hrec⟩ : ∃ rec : LoopState → Option Code → Loop, rec = fun st pe => { state := st, pending := pe, fn, tmps := a.tmps, params := pps, assign := asgc, body := bodyc, defers := S.w.heap.size } := ⟨_, rfl⟩
     obtain ⟨W1, hW1⟩ : ∃ W1, (S.w.alloc (.deferred (some []))).alloc (.loop (rec .ready none)) = W1 := ⟨_, rfl⟩
     have hW1s : W1.heap.size = S.w.heap.size + 2 := by rw [← hW1, size_alloc, size_alloc]
     have hW1o : ∀ b, b < S.w.heap.size → W1.heap[b]? = S.w.heap[b]? := fun b hb => by
       rw [← hW1, heap_alloc_lt _ _ _ (by rw [size_alloc]; omega), heap_alloc_lt _ _ _ hb]
     have hL1 : W1.heap[S.w.heap.size + 1]? = some (.loop (rec .ready none)) := by
       rw [← hW1]; have := heap_alloc_new (S.w.alloc (.deferred (some []))) (.loop (rec .ready none)); rwa [size_alloc] at this
     have hK1 : W1.heap[S.w.heap.size]? = some (.deferred (some [])) := by
       rw [← hW1, heap_alloc_lt _ _ _ (by rw [size_alloc]; omega)]; exact heap_alloc_new _ _
     -- the state at the loop's beginning
     obtain ⟨S1, hS1d⟩ : ∃ S1 : MS, S1 = { S with w := W1, keep := fun b => S.keep b ∨ b = S.w.heap.size ∨ b = S.w.heap.size + 1 } := ⟨_, rfl⟩
     have hw1 : S1.w = W1 := by rw [hS1d]
     have hlo : Lo S rec (S.w.heap.size + 2) .ready none (fun _ => False) S1 H := by
       refine ⟨?_, ?_, fun b hb => hb.elim, by rw [hw1, hW1s]; exact Nat.le_refl _, by rw [hw1]; exact hL1, by rw [hw1]; exact hK1, ?_, ?_⟩
       · subst hS1d hW1
         exact ⟨rfl, rfl, rfl, rfl, by rw [hW1s]; omega, fun b hb => hW1o b (hSim b hb), fun _ h => h, fun _ h => .inl h, fun _ h => .inl h, Nat.le_refl _, fun _ _ => Nat.le_refl _, fun _ _ _ => ⟨rfl, rfl, rfl⟩⟩
       · subst hS1d
         exact hS.turn2 (fun b hb => hW1o b (hSim b (.inl hb))) rfl rfl rfl rfl rfl rfl (fun b hb => hb.imp id (fun h => by omega)) (fun b hb => by
           show b < W1.heap.size
           rw [hW1s]
           rcases hb with hb | hb
           · have := hSim b (.inr hb); omega
           · omega) (fun b _ hl => hW1o b hl) (by show _ ≤ W1.heap.size; rw [hW1s]; omega)
       · rw [hS1d]; exact ⟨.inr (.inl rfl), fun hi => by have := hSim _ (.inl hi); omega⟩
       · rw [hS1d]; exact ⟨.inr (.inr rfl), fun hi => by have := hSim _ (.inl hi); omega⟩
     obtain ⟨Sit, hSid⟩ : ∃ Sit : MS, Sit = { S1 with n := 0, keep := fun _ => False } := ⟨_, rfl⟩
     have hSit : SRel Sit z02.nil := by
       subst hSid
       exact ⟨rfl, fun g hg => absurd hg (Nat.not_lt_zero _), fun g _ hg => absurd hg (Nat.not_lt_zero _), fun b hb => hlo.rel.im b (hb.imp id False.elim)⟩
     have hlb' : z03 Sit caps lb := by
       have := z03.mono hlo.evo _ hlb
       subst hSid
       exact z03.of_pure (S := S1) (S' := { S1 with n := 0, keep := fun _ => False }) rfl (fun _ h => h) hpure this
     have hwit : Sit.w = W1 := by rw [hSid]; exact hw1
     have himit : Sit.im = S.im := by rw [hSid, hS1d]
     refine ⟨S.w.heap.size + 1, [mark S.w.heap.size], W1, { target := .fn (.func gf) lb.toArray, args := #[.func (.yield (S.w.heap.size + 1)) #[] #[]] }, W1, gf, #[.func (.yield (S.w.heap.size + 1)) #[] #[]] ++ lb.toArray, W1, ?_, ?_, fun _ _ => trivial, ?_, fun h => (by cases h), ?_⟩
     · rw [← hW1, hrec]; exact run_enterLoop_outer _ _ _ _ _
     · simp only [rangeCall, resolve, hgv]
       simp [go_sem, Act.eval]
     · simpa [invoke, go_sem] using hent (Value.func (.yield (S.w.heap.size + 1)) #[] #[] :: lb).toArray W1
     -- the iterator
     have hcall := hit (mm + 1) (S.w.heap.size + 1) Sit lb
       (fun k O W => ∃ S' H', S'.w = W ∧ Lo S rec (S.w.heap.size + 2) .ready none O S' H' ∧ Inv k H')
       (fun k O W => ∃ x S' H', S'.w = W ∧ Lo S rec (S.w.heap.size + 2) .done (some (codeOf x)) O S' H' ∧ x ≠ .normal ∧ Qx x H')
       hSit hlb'
       (fun k O W W' ⟨S', H', hw, hl, hi⟩ h1 h2 h3 h4 h5 => by
         subst hw
         obtain ⟨S'', hw', hl'⟩ := hl.clo hSim h1 h2 h3 h4 h5
         exact ⟨S'', H', hw', hl', hi⟩)
       (fun k O W W' ⟨x, S', H', hw, hl, hi⟩ h1 h2 h3 h4 h5 => by
         subst hw
         obtain ⟨S'', hw', hl'⟩ := hl.clo hSim h1 h2 h3 h4 h5
         exact ⟨x, S'', H', hw', hl', hi⟩)
       ⟨S1, H, by rw [hwit, hw1], hlo, h0⟩
       (fun k O W hJ => by
         have hW1e : W1.os = S.w.os ∧ W1.tape = S.w.tape ∧ W1.output = S.w.output := by rw [← hW1]; exact ⟨rfl, rfl, rfl⟩
         have key : ∀ {st : LoopState} {pe : Option Code} {S' : MS} {H' : z02}, Lo S rec (S.w.heap.size + 2) st pe O S' H' → (∀ b, Sit.im b → ¬ O b ∧ S'.w.heap[b]? = Sit.w.heap[b]?) ∧ (S'.w.os = Sit.w.os ∧ S'.w.tape = Sit.w.tape ∧ S'.w.output = Sit.w.output) ∧ Sit.w.heap.size ≤ S'.w.heap.size ∧ ∀ b, O b → Sit.w.heap.size ≤ b ∧ b < S'.w.heap.size := fun hl => by
           refine ⟨fun b hb => ?_, by rw [hwit, hW1e.1, hW1e.2.1, hW1e.2.2]; exact ⟨hl.evo.os, hl.evo.tape, hl.evo.output⟩, by rw [hwit, hW1s]; exact hl.size, fun b hb => ?_⟩
           · rw [himit] at hb
             refine ⟨fun ho => by have := (hl.own b ho).2.2.1; have := hSim b (.inl hb); omega, ?_⟩
             rw [hwit, hW1o b (hSim b (.inl hb))]
             exact hl.evo.kept b (.inl hb)
           · obtain ⟨_, _, q3, q4⟩ := hl.own b hb
             rw [hwit, hW1s]
             exact ⟨q3, q4⟩
         rcases hJ with ⟨S', H', hw, hl, _⟩ | ⟨x, S', H', hw, hl, _, _⟩
         · subst hw; exact key hl
         · subst hw; exact key hl)
       (fun k row O W hrow ⟨S', H', hw, hl, hi⟩ => by
         subst hw
         have hlen : (encI row).size = (rec .ready none).params.size := by
           rw [hrec]
           have := hps row (List.mem_of_getElem? hrow)
           simp [this]
         refine ⟨_, _, _, _, run_yield hl.loop hlen, ?_⟩
         have hrf : rec .ready none = { state := .ready, pending := none, fn, tmps := a.tmps, params := pps, assign := asgc, body := bodyc, defers := S.w.heap.size } := by rw [hrec]
         rw [hrf]
         refine roundIn_of_wpIn (F := Fence.wide) trivial ?_
         have hF' : FRel S' n env a := hF.mono hl.evo
         have hFr := zo1 (n := n) (Marks.nil hF'.defers.1) (ps := pps.toList) (row := row) (env := env) (tmps := a.tmps) (ds' := a.defers) hF' hpn (hfl row (List.mem_of_getElem? hrow))
         have hTa' := (round k row H' hrow hi) (some (S.w.heap.size + 1)) (mm + 1) (.inl hfr1) asgc hx S' _ (by rw [hl.rel.n, hn k H' hi]; exact Nat.le_refl _) hl.rel hFr
         have hzip : (pps.zip (encI row)).foldl (fun t (p, v) => t.setIfInBounds p v) a.tmps = (pps.toList.zip (row.map valOf)).foldl (fun t (p, v) => t.setIfInBounds p v) a.tmps := by
           rw [← Array.foldl_toList]
           simp
         rw [hzip]
         refine wpIn_mono hTa' fun e a1 w1 hh => ?_
         obtain ⟨S2, env1, H2, x1, rfl, e2, hS2, hF2, rfl, rfl, hbody⟩ := hh
         have hn' : H'.n = H.n := hn k H' hi
         have hsz2 := hl.size
         obtain ⟨hl2, ho2⟩ := hl.on (by rw [hFn]; exact e2) hS2
         obtain ⟨S3, hw3, hl3, ev3, hn3, hb3, hk3, hi3⟩ := hl2.turn hSim .busy none
         have hbr := run_beginRound (P := P) hl2.loop (by rw [hrec])
         have hrb : ({ rec .ready none with state := .busy } : Loop) = rec .busy none := by rw [hrec]
         rw [hrb] at hbr
         refine ⟨_, hbr, ?_⟩
         rw [← hw3]
         have hMs : Marks S3 a1.defers := by
           obtain ⟨q0, Ds, q1, q2, q3⟩ := hF2.defers
           refine ⟨by rw [hb3, hw3, World.putObj_size]; exact q0, Ds, q1, q2, fun D hD => ?_⟩
           obtain ⟨r1, r2, r3, r4⟩ := q3 D hD
           refine ⟨by rw [hb3]; exact r1, by rw [hk3]; exact r2, by rw [hi3]; exact r3, ?_⟩
           rw [hw3, World.putObj_heap_other, r4]
           intro hDl
           rw [hDl, hl2.loop] at r4
           cases r4
         have hF3 : FRel S3 n env1 a1 := ⟨hF2.size, hMs, fun i hi => VRel.moni ev3 _ (hF2.val i hi)⟩
         have hTb := hbody (some (S.w.heap.size + 1)) (mm + 1) (.inl hfr2) bodyc hy S3 a1 (by rw [← hFn]; exact hl3.evo.n) hl3.rel hF3
         refine wpIn_mono hTb fun e a4 w4 hh => ?_
         obtain ⟨S4, env4, H4, x4, rfl, e4, hS4, hF4, rfl, hx4⟩ := hh
         obtain ⟨hl4, ho4⟩ := hl3.on (by rw [hFn]; exact e4) hS4
         have hob : ∀ b, O b → S4.w.heap[b]? = S'.w.heap[b]? := fun b hb => by
           have hne : b ≠ S.w.heap.size + 1 := by have := (hl.own b hb).2.2.1; omega
           rw [ho4 b hb, hw3, World.putObj_heap_other hne, ho2 b hb]
         have hput : ∀ (o : Obj) b, O b → (S4.w.putObj (S.w.heap.size + 1) o).heap[b]? = S'.w.heap[b]? := fun o b hb => by
           have hne : b ≠ S.w.heap.size + 1 := by have := (hl.own b hb).2.2.1; omega
           rw [World.putObj_heap_other hne, hob b hb]
         have hend := fun j => run_endRound (P := P) j hl4.loop
         have hgrow : ∀ o : Obj, S'.w.heap.size ≤ (S4.w.putObj (S.w.heap.size + 1) o).heap.size := fun o => by
           have g1 := e2.size
           have g2 := e4.size
           rw [hw3, World.putObj_size] at g2
           rw [World.putObj_size]
           omega
         have hr1 : ({ rec .busy none with state := .ready, pending := none } : Loop) = rec .ready none := by rw [hrec]
         have hr2 : ∀ c, ({ rec .busy none with state := .done, pending := some c } : Loop) = rec .done (some c) := fun c => by rw [hrec]
         rcases hx4 with ⟨rfl, hinv⟩ | ⟨hxn, hqx⟩
         · obtain ⟨S5, hw5, hl5, _⟩ := hl4.turn hSim .ready none
           have := hend none
           simp only [Option.isNone_none, if_true, hr1] at this
           exact ⟨_, _, this, hgrow _, hput _, .inl ⟨rfl, S5, H4, hw5, hl5, hinv⟩⟩
         · obtain ⟨S5, hw5, hl5, _⟩ := hl4.turn hSim .done (some (codeOf x4))
           have := hend (some (codeOf x4))
           simp only [Option.isNone_some, Bool.false_eq_true, if_false, hr2] at this
           cases x4 with
           | normal => exact absurd rfl hxn
           | exit id => exact ⟨_, _, this, hgrow _, hput _, .inr ⟨rfl, .exit id, S5, H4, hw5, hl5, hxn, hqx⟩⟩
           | ret => exact ⟨_, _, this, hgrow _, hput _, .inr ⟨rfl, .ret, S5, H4, hw5, hl5, hxn, hqx⟩⟩)
     rw [hwit] at hcall
     have hmk : ∀ (S' : MS) (H' : z02), Evo S S' → SRel S' H' → S'.keep S.w.heap.size ∧ ¬ S'.im S.w.heap.size → S'.w.heap[S.w.heap.size]? = some (.deferred (some [])) → FRel S' n env { a with defers := [mark S.w.heap.size] ++ a.defers } := fun S' H' ev _ hk hd => by
       have hF' := hF.mono ev
       refine ⟨hF'.size, ?_, hF'.val⟩
       obtain ⟨q0, Ds, q1, q2, q3⟩ := hF'.defers
       obtain ⟨_, Ds', p1, _, p3⟩ := hF.defers
       have hDs : Ds' = Ds := by
         rw [q1] at p1
         have hinj : ∀ {l l' : List Nat}, l.map mark = l'.map mark → l = l' := by
           intro l
           induction l with
           | nil => intro l' h; cases l' with
             | nil => rfl
             | cons => simp at h
           | cons x l ih => intro l' h; cases l' with
             | nil => simp at h
             | cons y l' =>
               simp only [List.map_cons, List.cons.injEq, mark, Deferred.mk.injEq, and_true, Target.collected.injEq] at h
               rw [h.1, ih h.2]
         exact (hinj p1).symm
       subst hDs
       refine ⟨q0, S.w.heap.size :: Ds', by rw [q1]; rfl, List.nodup_cons.2 ⟨fun hm => by have := hSim _ (.inr (p3 _ hm).2.1); omega, q2⟩, fun D hD => ?_⟩
       rcases List.mem_cons.1 hD with rfl | hD
       · exact ⟨by rw [ev.base]; exact hF.defers.1, hk.1, hk.2, hd⟩
       · exact q3 D hD
     refine CallsIn.mono (callsIn_wide.2 (callsIn_wide.1 hcall)) fun e w3 hh => ?_
     obtain ⟨⟨v, rfl⟩, hh⟩ := hh
     rcases hh with ⟨O, S', H', rfl, hl, hinv⟩ | ⟨k, O, x, S', H', rfl, hl, hxn, hqx⟩
     · obtain ⟨S5, hw5, hl5, _⟩ := hl.turn hSim .exhausted none
       have := run_endLoop (P := P) hl.loop (by rw [hrec]; intro hh; cases hh)
       have hr1 : ({ rec .ready none with state := .exhausted } : Loop) = rec .exhausted none := by rw [hrec]
       rw [hr1] at this
       have hpn' : (rec .ready none).pending = none := by rw [hrec]
       rw [hpn'] at this
       exact ⟨_, _, this, S5, env, H', .normal, hw5, hl5.evo.down hb, hl5.rel, hmk S5 H' hl5.evo hl5.rel hl5.k1 hl5.defd, rfl, done H' hinv⟩
     · obtain ⟨S5, hw5, hl5, _⟩ := hl.turn hSim .exhausted (some (codeOf x))
       have := run_endLoop (P := P) hl.loop (by rw [hrec]; intro hh; cases hh)
       have hr1 : ({ rec .done (some (codeOf x)) with state := .exhausted } : Loop) = rec .exhausted (some (codeOf x)) := by rw [hrec]
       rw [hr1] at this
       have hpn' : (rec .done (some (codeOf x))).pending = some (codeOf x) := by rw [hrec]
       rw [hpn'] at this
       refine ⟨_, _, this, ?_⟩
       have hAft : After S n b Q (Ex.up x) { a with defers := [mark S.w.heap.size] ++ a.defers } (S'.w.putObj (S.w.heap.size + 1) (.loop (rec .exhausted (some (codeOf x))))) :=
         ⟨S5, env, H', x, hw5, hl5.evo.down hb, hl5.rel, hmk S5 H' hl5.evo hl5.rel hl5.k1 hl5.defd, rfl, out x H' hqx⟩
       cases x with
       | normal => exact absurd rfl hxn
       | exit id => exact wpIn_exit hAft
       | ret => exact wpIn_ret hAft
   · cases hc
 case region => exact absurd hc z1x
 case seq => split at hc <;> cases hc
 case cond => split at hc <;> cases hc
 case block => obtain ⟨_, _, h⟩ := Option.map_eq_some_iff.1 hc; cases h
 case loop => obtain ⟨_, _, h⟩ := Option.map_eq_some_iff.1 hc; cases h
 case scope d => exact absurd rfl (hs d)
end
section
variable {P : Program} {n b : Nat} {env : Env} {H : z02} {Q : Ex → Env → z02 → Prop}
theorem zo2 {a : Act} : ∀ (ws : List Nat) {S : MS} {l : List Grp}, (∀ w ∈ ws, 0 < w) → SRel S (hl l) → FRel S n env a → ∃ S', S'.w = S.w ∧ Evo S S' ∧ SRel S' (hl (l ++ ws.map z6z)) ∧ FRel S' n env a
 | [], S, l, _, hS, hF => ⟨S, rfl, .refl S, by simpa using hS, hF⟩
 | w :: ws, S, l, hw, hS, hF => by
   have h1 := hS.virt w (hw w (by simp))
   rw [z3p] at h1
   obtain ⟨S', e1, e2, e3, e4⟩ := zo2 ws (S := S.virt w) (l := l ++ [z6z w]) (fun w' h' => hw w' (by simp [h'])) h1 ⟨hF.size, hF.defers.mono (Evo.virt _), fun j hj => VRel.mono (Evo.virt _) _ (hF.val j hj)⟩
   exact ⟨S', e1, (Evo.virt _).trans e2, by simpa using e3, e4⟩
theorem zz2 {srcs : List Src} {live : List (Nat × AV)} {heap : List Grp} {S : MS} {a : Act} (hh : Head b env H srcs live heap) (hbS : b ≤ S.n) (hS : SRel S H) (hF : FRel S n env a) :
   ∃ S', S'.w = S.w ∧ BEvo b S S' ∧ SRel S' (hl heap) ∧ FRel S' n (z3d live) a := by
 obtain ⟨hb, hh⟩ := hh
 have hgn : H.groups.length = H.n := by simp [z02.groups]
 have hS1 : SRel S (hl H.groups) := hS.congr hgn (fun g hg => by
   show H.groups.getD g default = _
   simp [z02.groups, List.getD, hg])
 obtain ⟨S2, e1, e2, e3, e4⟩ := zo2 (z47 H.n srcs).2 (z7z hh.1) hS1 hF
 replace hh := hh.2
 generalize hl1 : H.groups ++ (z47 H.n srcs).2.map z6z = l1 at *
 obtain ⟨h1, h2, h3, h4⟩ := hh
 have hb1 : b ≤ l1.length := by rw [← hl1, List.length_append]; omega
 have hbS2 : b ≤ S2.n := Nat.le_trans hbS e2.n
 obtain ⟨k1, k2⟩ := zcn (ks := (z47 H.n srcs).1) hb1
 have hev := z7x (ks := (z47 H.n srcs).1) e3 hbS2
 have hrel := (zad (ks := (z47 H.n srcs).1) 6 e3 hb1 (fun k hk => zc2 h1 k hk) (z6q h2)).congr k1 k2
 have hF3 : FRel (S2.repack b (hl l1) (z47 H.n srcs).1) n (fun i => rnV b (hl l1) (z47 H.n srcs).1 6 (env i)) a := ⟨e4.size, e4.defers.of hev.base hev.size hev.keep hev.fresh (fun b hb => hev.kept b (.inr hb)), fun j hj => zqb e3 6 (e4.val j hj)⟩
 exact ⟨S2.repack b (hl l1) (z47 H.n srcs).1, e1, (e2.down hbS).trans hev, z7y hrel h4, ⟨hF3.size, hF3.defers, zco hrel hF3 h3⟩⟩
theorem y8c {c : AC} {Q' : Ex → Env → z02 → Prop} (h : T P n b c env H Q') (hq : ∀ x env' H', Q' x env' H' → ∃ srcs live heap, Head b env' H' srcs live heap ∧ Q x (z3d live) (hl heap)) : T P n b c env H Q :=
 fun rd mm hrd code hc S a hb hS hF => wpIn_mono (h rd mm hrd code hc S a hb hS hF) fun e a w hh => by
   obtain ⟨S', env', H', x, e1, e2, e3, e4, e5, e6⟩ := hh
   obtain ⟨srcs, live, heap, k1, k2⟩ := hq _ _ _ e6
   obtain ⟨S2, q1, q2, q3, q4⟩ := zz2 k1 e2.n e3 e4
   exact ⟨S2, _, _, x, q1.trans e1, e2.trans q2, q3, q4, e5, k2⟩
theorem zuj {σ : Type} (Fact : Nat → σ → Prop) (live : List (Nat × AV)) (heap : σ → List Grp) (srcs : List Src) (N : Nat) {f : AArg} {ps : List Nat} {asg body : AC} {gf : Nat} {caps : List AV} {rows : List (List AV)} (s0 : σ)
   (hit : zo0 P gf caps rows) (he : Head b env H srcs live (heap s0)) (hN : ∀ s, (heap s).length = N) (hf : f.eval (z3d live) = .fn gf caps) (hpure : z0h caps = true) (hfr1 : asg.free = true) (hfr2 : body.free = true)
   (hfl : ∀ r ∈ rows, ∀ x ∈ r, Flat x) (hps : ∀ r ∈ rows, r.length = ps.length) (hpn : ∀ p ∈ ps, p < n) (h0 : Fact 0 s0)
   (round : ∀ k row s, rows[k]? = some row → Fact k s → T P n N asg (setL (z3d live) ps row) (hl (heap s)) (fun x env1 H2 => x = .normal ∧ T P n N body env1 H2 (Ex.then (fun env3 H3 => ∃ s', Head N env3 H3 [] [] (heap s') ∧ Fact (k + 1) s') (fun _ _ _ => False))))
   (done : ∀ s, Fact rows.length s → Q .normal (z3d live) (hl (heap s))) : T P n b (.rng f ps asg body) env H Q := by
 refine zts he ?_
 refine T_rng hf hpure hfr1 hfr2 hit hfl hps hpn (fun k H' => ∃ s, H' = hl (heap s) ∧ Fact k s) (fun _ _ => False) ⟨s0, rfl, h0⟩ (fun k H' hh => ?_) (fun _ _ hh => hh.elim) (fun k row H1 hrow hh => ?_) (fun H1 hh => ?_) (fun _ _ hh => hh.elim)
 · obtain ⟨s, rfl, _⟩ := hh
   show (heap s).length = (heap s0).length
   rw [hN, hN]
 · obtain ⟨s, rfl, hs⟩ := hh
   have hn0 : (hl (heap s0)).n = N := hN s0
   rw [hn0]
   refine T.mono (round k row s hrow hs) fun x env1 H2 hh => ⟨hh.1, ?_⟩
   refine y8c hh.2 fun x env3 H3 hq => ?_
   cases x with
   | normal =>
     obtain ⟨s', q1, q2⟩ := hq
     exact ⟨[], [], heap s', q1, .inl ⟨rfl, s', rfl, q2⟩⟩
   | exit id => exact hq.elim
   | ret => exact hq.elim
 · obtain ⟨s, rfl, hs⟩ := hh
   exact done s hs
theorem zls {f : AArg} {ps : List Nat} {asg body : AC} (h : T P n b (.rng f ps asg body) env H Q) : @z8e ⟨T P n b (.rng f ps asg body) env H Q⟩ := h
end
end Go.Proofs.Yticodgjinajkpaa.Abs
