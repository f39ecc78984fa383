/-
  A call that knows some of the groups only, among others: these stay as they are.
  What a call leaves, without what is of no use any more.
  A loop of few rounds, walked round by round.
  Families of groups: what is known, weakened step by step; loops over it.
  What lies behind a slice's end is forgotten, in the midst of a walk.
  The data of the program, and how values mean it.
  The functions of the seat and what they call, as the walk reads them. Written by a program of my own (wip/tools/mkfns.py).
  The functions of the seat and what they call, as the walk reads them. Written by a program of my own (wip/tools/mkfns.py).
  The library's sort of no spans.
  Plain lists of spans: what a set's list is, whichever way it is made.
-/
import Derived.LoopNIn
import Derived.Test.YticodgjinajkpaaProg
import Derived.KernelRfl
import Derived.Test.YticodgjinajkpaaDT3
import Derived.Test.YticodgjinajkpaaDT2
set_option linter.unusedSimpArgs false
set_option linter.unusedVariables false
namespace Go.Proofs.Yticodgjinajkpaa.Abs
mutual
def ren (σ : Nat → Nat) : AV → AV
 | .any => .any
 | .bool b => .bool b
 | .int k n => .int k n
 | .str s => .str s
 | .nilS => .nilS
 | .nul => .nul
 | .emp => .emp
 | .lst w xs => .lst w xs
 | .full w xs => .full w xs
 | .map g v => .map (σ g) v
 | .ref g v o n => .ref (σ g) v o n
 | .cptr x => .cptr x
 | .ptr g v i o => .ptr (σ g) v i o
 | .nilP => .nilP
 | .agg cs => .agg (renL σ cs)
 | .tup cs => .tup (renL σ cs)
 | .fn f cs => .fn f (renL σ cs)
 | .nilF => .nilF
 | .yld l => .yld l
def renL (σ : Nat → Nat) : List AV → List AV
 | [] => []
 | x :: xs => ren σ x :: renL σ xs
end
mutual
def ltV (m : Nat) : AV → Prop
 | .map g _ | .ref g _ _ _ | .ptr g _ _ _ => g < m
 | .agg cs | .tup cs | .fn _ cs => ltL m cs
 | .any | .bool _ | .int .. | .str _ | .nilS | .nul | .emp | .lst .. | .full .. | .cptr _ | .nilP | .nilF | .yld _ => True
def ltL (m : Nat) : List AV → Prop
 | [] => True
 | x :: xs => ltV m x ∧ ltL m xs
end
def renG (σ : Nat → Nat) (G : Grp) : Grp := ⟨G.w, G.ver, G.exact, renL σ G.xs⟩
mutual
theorem y19 {A B : MS} {σ : Nat → Nat} (hw : B.w = A.w) (hi : ∀ b, A.im b → B.im b) (hg : ∀ g, g < A.n → σ g < B.n ∧ B.cur (σ g) = A.cur g ∧ B.place (σ g) = A.place g ∧ B.cap (σ g) = A.cap g ∧ B.wid (σ g) = A.wid g) : ∀ (x : AV) {v : Value}, VRel A x v → VRel B (ren σ x) v
 | .any, _, _ => trivial
 | .bool _, _, h => h
 | .int _ _, _, h => h
 | .str _, _, h => h
 | .nilS, _, h => h
 | .nul, _, h => h
 | .emp, _, h => h
 | .nilP, _, h => h
 | .nilF, _, h => h
 | .yld _, _, h => h
 | .lst wd xs, v, h => by
   obtain ⟨hp, h0, a, cap, vs, hv, hc, hl, hr⟩ := h
   refine ⟨hp, h0, a, cap, vs, hv, hc, z03.of_pure hw hi hp hl, fun hne => ?_⟩
   obtain ⟨b, o, ha, hb, hrow⟩ := hr hne
   exact ⟨b, o, ha, hi b hb, by rw [hw]; exact hrow⟩
 | .full wd xs, v, h => by
   obtain ⟨hp, h0, a, vs, hv, hc, hl, hr⟩ := h
   refine ⟨hp, h0, a, vs, hv, hc, z03.of_pure hw hi hp hl, fun hne => ?_⟩
   obtain ⟨b, o, ha, hb, hrow⟩ := hr hne
   exact ⟨b, o, ha, hi b hb, by rw [hw]; exact hrow⟩
 | .cptr x, v, h => by
   obtain ⟨hp, b, o, u, hv, hb, hx, hl⟩ := h
   exact ⟨hp, b, o, u, hv, hi b hb, VRel.of_pure hw hi hp hx, by rw [hw]; exact hl⟩
 | .map g vn, v, h => by
   obtain ⟨hs, hgn, hc, hv⟩ := h
   obtain ⟨k1, k2, k3, k4, k5⟩ := hg g hgn
   exact ⟨hs, k1, by rw [k2]; exact hc, fun h' => by rw [k3]; exact hv (by rw [← k2]; exact h')⟩
 | .ref g vn off len, v, h => by
   obtain ⟨hs, hgn, hc, hv⟩ := h
   obtain ⟨k1, k2, k3, k4, k5⟩ := hg g hgn
   exact ⟨hs, k1, by rw [k2]; exact hc, fun h' => by rw [k3, k4, k5]; exact hv (by rw [← k2]; exact h')⟩
 | .ptr g vn i o, v, h => by
   obtain ⟨hs, hgn, hc, hv⟩ := h
   obtain ⟨k1, k2, k3, k4, k5⟩ := hg g hgn
   exact ⟨hs, k1, by rw [k2]; exact hc, fun h' => by rw [k3, k5]; exact hv (by rw [← k2]; exact h')⟩
 | .agg cs, v, h => by obtain ⟨vs, hv, h⟩ := h; exact ⟨vs, hv, zaf hw hi hg cs h⟩
 | .tup cs, v, h => by obtain ⟨vs, hv, h⟩ := h; exact ⟨vs, hv, zaf hw hi hg cs h⟩
 | .fn f cs, v, h => by obtain ⟨vs, hv, h⟩ := h; exact ⟨vs, hv, zaf hw hi hg cs h⟩
theorem zaf {A B : MS} {σ : Nat → Nat} (hw : B.w = A.w) (hi : ∀ b, A.im b → B.im b) (hg : ∀ g, g < A.n → σ g < B.n ∧ B.cur (σ g) = A.cur g ∧ B.place (σ g) = A.place g ∧ B.cap (σ g) = A.cap g ∧ B.wid (σ g) = A.wid g) : ∀ (xs : List AV) {vs : List Value}, z03 A xs vs → z03 B (renL σ xs) vs
 | [], _, h => h
 | x :: xs, _, h => by
   obtain ⟨v, r, hv, h1, h2⟩ := h
   exact ⟨v, r, hv, y19 hw hi hg x h1, zaf hw hi hg xs h2⟩
end
mutual
theorem zo3 {A B : MS} {σ : Nat → Nat} {m : Nat} (hw : A.w = B.w) (hi : ∀ b, B.im b → A.im b) (hg : ∀ g, g < m → g < A.n ∧ B.cur (σ g) = A.cur g ∧ B.place (σ g) = A.place g ∧ B.cap (σ g) = A.cap g ∧ B.wid (σ g) = A.wid g) : ∀ (x : AV) {v : Value}, ltV m x → VRel B (ren σ x) v → VRel A x v
 | .any, _, _, _ => trivial
 | .bool _, _, _, h => h
 | .int _ _, _, _, h => h
 | .str _, _, _, h => h
 | .nilS, _, _, h => h
 | .nul, _, _, h => h
 | .emp, _, _, h => h
 | .nilP, _, _, h => h
 | .nilF, _, _, h => h
 | .yld _, _, _, h => h
 | .lst wd xs, v, _, h => by
   obtain ⟨hp, h0, a, cap, vs, hv, hc, hl, hr⟩ := h
   refine ⟨hp, h0, a, cap, vs, hv, hc, z03.of_pure hw hi hp hl, fun hne => ?_⟩
   obtain ⟨b, o, ha, hb, hrow⟩ := hr hne
   exact ⟨b, o, ha, hi b hb, by rw [hw]; exact hrow⟩
 | .full wd xs, v, _, h => by
   obtain ⟨hp, h0, a, vs, hv, hc, hl, hr⟩ := h
   refine ⟨hp, h0, a, vs, hv, hc, z03.of_pure hw hi hp hl, fun hne => ?_⟩
   obtain ⟨b, o, ha, hb, hrow⟩ := hr hne
   exact ⟨b, o, ha, hi b hb, by rw [hw]; exact hrow⟩
 | .cptr x, v, _, h => by
   obtain ⟨hp, b, o, u, hv, hb, hx, hl⟩ := h
   exact ⟨hp, b, o, u, hv, hi b hb, VRel.of_pure hw hi hp hx, by rw [hw]; exact hl⟩
 | .map g vn, v, hm, h => by
   obtain ⟨hs, hgn, hc, hv⟩ := h
   obtain ⟨k1, k2, k3, k4, k5⟩ := hg g hm
   exact ⟨hs, k1, by rw [← k2]; exact hc, fun h' => by rw [← k3]; exact hv (by rw [k2]; exact h')⟩
 | .ref g vn off len, v, hm, h => by
   obtain ⟨hs, hgn, hc, hv⟩ := h
   obtain ⟨k1, k2, k3, k4, k5⟩ := hg g hm
   exact ⟨hs, k1, by rw [← k2]; exact hc, fun h' => by rw [← k3, ← k4, ← k5]; exact hv (by rw [k2]; exact h')⟩
 | .ptr g vn i o, v, hm, h => by
   obtain ⟨hs, hgn, hc, hv⟩ := h
   obtain ⟨k1, k2, k3, k4, k5⟩ := hg g hm
   exact ⟨hs, k1, by rw [← k2]; exact hc, fun h' => by rw [← k3, ← k5]; exact hv (by rw [k2]; exact h')⟩
 | .agg cs, v, hm, h => by obtain ⟨vs, hv, h⟩ := h; exact ⟨vs, hv, z4w hw hi hg cs hm h⟩
 | .tup cs, v, hm, h => by obtain ⟨vs, hv, h⟩ := h; exact ⟨vs, hv, z4w hw hi hg cs hm h⟩
 | .fn f cs, v, hm, h => by obtain ⟨vs, hv, h⟩ := h; exact ⟨vs, hv, z4w hw hi hg cs hm h⟩
theorem z4w {A B : MS} {σ : Nat → Nat} {m : Nat} (hw : A.w = B.w) (hi : ∀ b, B.im b → A.im b) (hg : ∀ g, g < m → g < A.n ∧ B.cur (σ g) = A.cur g ∧ B.place (σ g) = A.place g ∧ B.cap (σ g) = A.cap g ∧ B.wid (σ g) = A.wid g) : ∀ (xs : List AV) {vs : List Value}, ltL m xs → z03 B (renL σ xs) vs → z03 A xs vs
 | [], _, _, h => h
 | x :: xs, _, hm, h => by
   obtain ⟨v, r, hv, h1, h2⟩ := h
   exact ⟨v, r, hv, zo3 hw hi hg x hm.1 h1, z4w hw hi hg xs hm.2 h2⟩
end
theorem z9j {σ : Nat → Nat} : ∀ xs : List AV, (renL σ xs).length = xs.length
 | [] => rfl
 | x :: xs => by simp [renL, z9j xs]
def sg (ks : List Nat) (N i : Nat) : Nat := if i < ks.length then ks.getD i 0 else N + (i - ks.length)
def iv (ks : List Nat) (N g : Nat) : Nat := if g < N then ks.idxOf g else ks.length + (g - N)
def setG : List Nat → List Grp → List Grp → List Grp
 | [], r, l => l ++ r
 | _ :: _, [], l => l
 | k :: ks, G :: r, l => setG ks r (l.set k G)
theorem zo4 : ∀ {ks : List Nat} {r l : List Grp}, ks.length ≤ r.length → (setG ks r l).length = l.length + (r.length - ks.length)
 | [], r, l, _ => by simp [setG]
 | k :: ks, [], l, h => by simp at h
 | k :: ks, G :: r, l, h => by
   rw [setG, zo4 (by simpa using h)]
   simp
theorem zag : ∀ {ks : List Nat} {r l : List Grp} {g : Nat}, g < l.length → g ∉ ks → (setG ks r l).getD g default = l.getD g default
 | [], r, l, g, hg, _ => by simp [setG, List.getD, List.getElem?_append_left hg]
 | k :: ks, [], l, g, _, _ => rfl
 | k :: ks, G :: r, l, g, hg, hk => by
   simp only [List.mem_cons, not_or] at hk
   rw [setG, zag (by simpa using hg) hk.2]
   simp [List.getD, List.getElem?_set_ne (fun h => hk.1 h.symm)]
theorem zuk : ∀ {ks : List Nat} {r l : List Grp} {i : Nat}, ks.Nodup → (∀ k ∈ ks, k < l.length) → i < r.length → (setG ks r l).getD (sg ks l.length i) default = r.getD i default
 | [], r, l, i, _, _, hi => by
   simp only [setG, sg, List.length_nil, Nat.not_lt_zero, if_false, Nat.sub_zero, List.getD]
   rw [List.getElem?_append_right (by omega), Nat.add_sub_cancel_left]
 | k :: ks, [], l, i, _, _, hi => by simp at hi
 | k :: ks, G :: r, l, 0, hn, hk, _ => by
   rw [List.nodup_cons] at hn
   have h1 : k < l.length := hk k (by simp)
   have e : sg (k :: ks) l.length 0 = k := by simp [sg]
   rw [e, setG, zag (by simpa using h1) hn.1]
   simp [List.getD, List.getElem?_set_self h1]
 | k :: ks, G :: r, l, i + 1, hn, hk, hi => by
   rw [List.nodup_cons] at hn
   have e : sg (k :: ks) l.length (i + 1) = sg ks (l.set k G).length i := by simp [sg]
   rw [e, setG, zuk hn.2 (fun k' h' => by simpa using hk k' (by simp [h'])) (by simpa using hi)]
   simp
theorem sg_lt {ks : List Nat} {N i n : Nat} (hk : ∀ k ∈ ks, k < N) (hi : i < n) (hm : ks.length ≤ n) : sg ks N i < N + (n - ks.length) := by
 unfold sg
 split
 · rename_i h
   have : ks.getD i 0 ∈ ks := by rw [List.getD_eq_getElem?_getD, List.getElem?_eq_getElem h]; exact List.getElem_mem h
   have := hk _ this
   omega
 · omega
theorem y4q {ks : List Nat} {N i : Nat} (hn : ks.Nodup) (hk : ∀ k ∈ ks, k < N) : iv ks N (sg ks N i) = i := by
 unfold sg
 split
 · rename_i h
   have hmem : ks.getD i 0 ∈ ks := by rw [List.getD_eq_getElem?_getD, List.getElem?_eq_getElem h]; exact List.getElem_mem h
   rw [iv, if_pos (hk _ hmem), List.getD_eq_getElem?_getD, List.getElem?_eq_getElem h]
   exact hn.idxOf_getElem i h
 · rw [iv, if_neg (by omega)]; omega
theorem zul {ks : List Nat} {N g : Nat} (hg : g ∈ ks) : ∃ i, i < ks.length ∧ sg ks N i = g := by
 obtain ⟨i, hi, he⟩ := List.getElem_of_mem hg
 exact ⟨i, hi, by rw [sg, if_pos hi, List.getD_eq_getElem?_getD, List.getElem?_eq_getElem hi]; exact he⟩
theorem zz3 {ks : List Nat} {N g n : Nat} (hm : ks.length ≤ n) (hg : g < N + (n - ks.length)) (h : ¬ (g < N ∧ g ∉ ks)) : ∃ i, i < n ∧ sg ks N i = g := by
 by_cases hgN : g < N
 · have hmem : g ∈ ks := by
     by_cases hh : g ∈ ks
     · exact hh
     · exact absurd ⟨hgN, hh⟩ h
   obtain ⟨i, hi, he⟩ := zul (N := N) hmem
   exact ⟨i, by omega, he⟩
 · exact ⟨ks.length + (g - N), by omega, by rw [sg, if_neg (by omega)]; omega⟩
theorem zay {σ : Nat → Nat} {l : List Grp} {i : Nat} (h : i < l.length) : (l.map (renG σ)).getD i default = renG σ (l.getD i default) := by
 simp [List.getD, List.getElem?_eq_getElem h]
theorem zj5 {P : Program} {f : Nat} {xs0 xs : List AV} {l0 l : List Grp} {K0 K : AV → z02 → Prop} (ks : List Nat) (h : z1f P f xs0 (hl l0) K0) (hxs : renL (sg ks l.length) xs0 = xs)
   (hl0 : l0.map (renG (sg ks l.length)) = ks.map (fun k => l.getD k default)) (hn : ks.Nodup) (hk : ∀ k ∈ ks, k < l.length) (hlt : ltL ks.length xs0) (hltG : ∀ G ∈ l0, ltL ks.length G.xs)
   (hK : ∀ y H', K0 y H' → ∃ l', H' = hl l' ∧ ks.length ≤ l'.length ∧ K (ren (sg ks l.length) y) (hl (setG ks (l'.map (renG (sg ks l.length))) l))) : z1f P f xs (hl l) K := by
 refine ⟨h.1, fun S cargs hS hx => ?_⟩
 have hm : l0.length = ks.length := by simpa using congrArg List.length hl0
 have hSn : S.n = l.length := hS.n
 have hinj : ∀ i j, sg ks l.length i = sg ks l.length j → i = j := fun i j e => by rw [← y4q (i := i) hn hk, e, y4q hn hk]
 have hin : ∀ i, i < ks.length → sg ks l.length i < l.length ∧ sg ks l.length i ∈ ks := fun i hi => by
   have e : sg ks l.length i = ks[i] := by rw [sg, if_pos hi, List.getD_eq_getElem?_getD, List.getElem?_eq_getElem hi]; rfl
   rw [e]
   exact ⟨hk _ (List.getElem_mem hi), List.getElem_mem hi⟩
 have hat : ∀ i, i < ks.length → l.getD (sg ks l.length i) default = renG (sg ks l.length) (l0.getD i default) := fun i hi => by
   rw [← zay (by omega), hl0, sg, if_pos hi]
   simp [List.getD, List.getElem?_eq_getElem hi]
 have hG : ∀ i, i < ks.length → GRel S (renG (sg ks l.length) (l0.getD i default)) (sg ks l.length i) := fun i hi => by
   have := hS.grp (sg ks l.length i) (hin i hi).1
   rwa [z2g, hat i hi] at this
 obtain ⟨O, hO⟩ : ∃ O : Nat → Prop, ∀ b, O b ↔ ∃ g, g < l.length ∧ g ∉ ks ∧ (l.getD g default).has (S.cap g) ∧ S.place g = b := ⟨_, fun _ => Iff.rfl⟩
 have hOfree : ∀ b, O b → ¬ (S.im b ∨ S.keep b) := fun b hb => by
   obtain ⟨g, h1, h2, h3, rfl⟩ := (hO b).1 hb
   exact (hS.grp g h1).has_ni (by rw [z2g]; exact h3)
 obtain ⟨S0, hS0d⟩ : ∃ S0 : MS, S0 = { S with keep := fun b => S.keep b ∨ O b, n := ks.length, place := fun i => S.place (sg ks l.length i), cur := fun i => S.cur (sg ks l.length i), cap := fun i => S.cap (sg ks l.length i), wid := fun i => S.wid (sg ks l.length i) } := ⟨_, rfl⟩
 have hdn : ∀ g, g < ks.length → g < S0.n ∧ S.cur (sg ks l.length g) = S0.cur g ∧ S.place (sg ks l.length g) = S0.place g ∧ S.cap (sg ks l.length g) = S0.cap g ∧ S.wid (sg ks l.length g) = S0.wid g := fun g hg => by
   subst hS0d; exact ⟨hg, rfl, rfl, rfl, rfl⟩
 have hw0 : S0.w = S.w := by subst hS0d; rfl
 have hi0 : ∀ b, S.im b → S0.im b := fun b hb => by subst hS0d; exact hb
 have hrel0 : SRel S0 (hl l0) := by
   refine ⟨by subst hS0d; exact hm.symm, fun i hi => ?_, fun i j hi hj hne h1 h2 => ?_, fun b hb => ?_⟩
   · have hi' : i < ks.length := by rw [← hm]; exact hi
     have hg := hG i hi'
     have hmem : l0.getD i default ∈ l0 := by rw [List.getD_eq_getElem?_getD, List.getElem?_eq_getElem (show i < l0.length from hi)]; exact List.getElem_mem _
     have hlg := hltG _ hmem
     rw [z2g]
     have hnO : (l0.getD i default).has (S.cap (sg ks l.length i)) → ¬ O (S.place (sg ks l.length i)) := fun hh ho => by
       obtain ⟨g, a1, a2, a3, a4⟩ := (hO _).1 ho
       exact hS.apart g (sg ks l.length i) a1 (hin i hi').1 (fun e => a2 (e ▸ (hin i hi').2)) (by rw [z2g]; exact a3) (by rw [z2g, hat i hi']; exact hh) a4
     refine ⟨by subst hS0d; exact hg.ver, by subst hS0d; exact hg.wid, fun hw hc => ?_, fun hw => by have := hg.len hw; subst hS0d; simpa [renG, z9j] using this, fun hw he => by have := hg.full hw he; subst hS0d; simpa [renG, z9j] using this, fun hw he => ?_⟩
     · have hc' : 0 < S.cap (sg ks l.length i) := by subst hS0d; exact hc
       obtain ⟨⟨cells, T, vs, b1, b2, b3, b4⟩, ni⟩ := hg.live hw hc'
       refine ⟨⟨cells, T, vs, by subst hS0d; exact b1, by subst hS0d; exact b2, z4w hw0 hi0 hdn _ hlg b3, b4⟩, fun hh => ?_⟩
       have hno := hnO (.inl ⟨hw, hc'⟩)
       subst hS0d
       exact hh.elim (fun hh => ni (.inl hh)) (fun hh => hh.elim (fun hh => ni (.inr hh)) hno)
     · obtain ⟨⟨es, clock, b1, b2⟩, ni⟩ := hg.mlive hw he
       refine ⟨⟨es, clock, by subst hS0d; exact b1, z4w hw0 hi0 hdn _ hlg b2⟩, fun hh => ?_⟩
       have hno := hnO (.inr ⟨hw, he⟩)
       subst hS0d
       exact hh.elim (fun hh => ni (.inl hh)) (fun hh => hh.elim (fun hh => ni (.inr hh)) hno)
   · have hi' : i < ks.length := by rw [← hm]; exact hi
     have hj' : j < ks.length := by rw [← hm]; exact hj
     rw [z2g] at h1 h2
     have := hS.apart (sg ks l.length i) (sg ks l.length j) (hin i hi').1 (hin j hj').1 (fun e => hne (hinj _ _ e)) (by rw [z2g, hat i hi']; subst hS0d; exact h1) (by rw [z2g, hat j hj']; subst hS0d; exact h2)
     subst hS0d
     exact this
   · subst hS0d
     rcases hb with hb | hb | hb
     · exact hS.im b (.inl hb)
     · exact hS.im b (.inr hb)
     · obtain ⟨g, a1, a2, a3, rfl⟩ := (hO _).1 hb
       exact (hS.grp g a1).has_lt (by rw [z2g]; exact a3)
 have hx0 : z03 S0 xs0 cargs := z4w hw0 hi0 hdn xs0 hlt (by rw [hxs]; exact hx)
 have hsz : S0.w.heap = S.w.heap := by rw [hw0]
 have hcall := h.2 S0 cargs hrel0 hx0
 rw [hw0] at hcall
 refine hcall.mono fun e w' hh => ?_
 obtain ⟨v, S1, y, H', he, hw1, ev, hS1, hv, hk0⟩ := hh
 obtain ⟨l', rfl, hml, hK'⟩ := hK y H' hk0
 have hn1 : S1.n = l'.length := hS1.n
 have hnot : ∀ i, ¬ (sg ks l.length i < l.length ∧ sg ks l.length i ∉ ks) := fun i hh => by
   by_cases hi : i < ks.length
   · exact hh.2 (hin i hi).2
   · have : sg ks l.length i = l.length + (i - ks.length) := by rw [sg, if_neg hi]
     omega
 obtain ⟨S', hS'd⟩ : ∃ S' : MS, S' = { w := S1.w, im := S1.im, keep := fun b => S1.keep b ∧ ¬ O b, n := l.length + (l'.length - ks.length), place := fun g => if g < l.length ∧ g ∉ ks then S.place g else S1.place (iv ks l.length g), cur := fun g => if g < l.length ∧ g ∉ ks then S.cur g else S1.cur (iv ks l.length g), cap := fun g => if g < l.length ∧ g ∉ ks then S.cap g else S1.cap (iv ks l.length g), wid := fun g => if g < l.length ∧ g ∉ ks then S.wid g else S1.wid (iv ks l.length g), base := S1.base } := ⟨_, rfl⟩
 have hoth : ∀ g, g < l.length → g ∉ ks → S'.place g = S.place g ∧ S'.cur g = S.cur g ∧ S'.cap g = S.cap g ∧ S'.wid g = S.wid g := fun g h1 h2 => by
   subst hS'd
   exact ⟨if_pos ⟨h1, h2⟩, if_pos ⟨h1, h2⟩, if_pos ⟨h1, h2⟩, if_pos ⟨h1, h2⟩⟩
 have hour : ∀ i, S'.place (sg ks l.length i) = S1.place i ∧ S'.cur (sg ks l.length i) = S1.cur i ∧ S'.cap (sg ks l.length i) = S1.cap i ∧ S'.wid (sg ks l.length i) = S1.wid i := fun i => by
   subst hS'd
   refine ⟨?_, ?_, ?_, ?_⟩ <;> simp only [if_neg (hnot i), y4q hn hk]
 have hn' : S'.n = l.length + (l'.length - ks.length) := by subst hS'd; rfl
 have hwS' : S'.w = S1.w := by subst hS'd; rfl
 have hup : ∀ g, g < S1.n → sg ks l.length g < S'.n ∧ S'.cur (sg ks l.length g) = S1.cur g ∧ S'.place (sg ks l.length g) = S1.place g ∧ S'.cap (sg ks l.length g) = S1.cap g ∧ S'.wid (sg ks l.length g) = S1.wid g := fun g hg => by
   obtain ⟨a1, a2, a3, a4⟩ := hour g
   exact ⟨by rw [hn']; exact sg_lt hk (by omega) hml, a2, a1, a3, a4⟩
 have hiS' : ∀ b, S1.im b → S'.im b := fun b hb => by subst hS'd; exact hb
 have hkS0 : ∀ b, O b → S0.keep b := fun b hb => by subst hS0d; exact .inr hb
 have hn0 : S0.n = ks.length := by subst hS0d; rfl
 have hevo : Evo S S' := by
   refine ⟨?_, ?_, ?_, ?_, ?_, fun b hb => ?_, fun b hb => ?_, fun b hb => ?_, fun b hb => ?_, ?_, fun g hg => ?_, fun g hg he => ?_⟩
   · have := ev.base; subst hS'd; subst hS0d; exact this
   · have := ev.os; rw [hw0] at this; rw [hwS']; exact this
   · have := ev.tape; rw [hw0] at this; rw [hwS']; exact this
   · have := ev.output; rw [hw0] at this; rw [hwS']; exact this
   · have := ev.size; rw [hw0] at this; rw [hwS']; exact this
   · have := ev.kept b (by subst hS0d; exact hb.imp id .inl); rw [hw0] at this; rw [hwS']; exact this
   · exact hiS' b (ev.im b (hi0 b hb))
   · have h1 := ev.keep b (by subst hS0d; exact .inl hb)
     subst hS'd
     exact ⟨h1, fun ho => hOfree b ho (.inr hb)⟩
   · have h1 := ev.fresh b (by subst hS'd; exact hb)
     subst hS0d
     exact h1.imp id fun hh h2 => hh (.inl h2)
   · rw [hn', hSn]; omega
   · rw [hSn] at hg
     by_cases hmem : g ∈ ks
     · obtain ⟨i, hi, rfl⟩ := zul (N := l.length) hmem
       rw [(hour i).2.1]
       have := ev.cur i (by rw [hn0]; exact hi)
       subst hS0d
       exact this
     · rw [(hoth g hg hmem).2.1]; exact Nat.le_refl _
   · rw [hSn] at hg
     by_cases hmem : g ∈ ks
     · obtain ⟨i, hi, rfl⟩ := zul (N := l.length) hmem
       obtain ⟨a1, a2, a3, a4⟩ := hour i
       rw [a1, a3, a4]
       rw [a2] at he
       have := ev.same i (by rw [hn0]; exact hi) (by subst hS0d; exact he)
       subst hS0d
       exact this
     · obtain ⟨a1, a2, a3, a4⟩ := hoth g hg hmem
       exact ⟨a1, a3, a4⟩
 have hlen : (setG ks (l'.map (renG (sg ks l.length))) l).length = l.length + (l'.length - ks.length) := by rw [zo4 (by simpa using hml)]; simp
 have hatO : ∀ g, g < l.length → g ∉ ks → (setG ks (l'.map (renG (sg ks l.length))) l).getD g default = l.getD g default := fun g h1 h2 => zag h1 h2
 have hatI : ∀ i, i < l'.length → (setG ks (l'.map (renG (sg ks l.length))) l).getD (sg ks l.length i) default = renG (sg ks l.length) (l'.getD i default) := fun i hi => by
   rw [zuk hn hk (by simpa using hi), zay hi]
 have hrel' : SRel S' (hl (setG ks (l'.map (renG (sg ks l.length))) l)) := by
   have hcov : ∀ g, g < (setG ks (l'.map (renG (sg ks l.length))) l).length → (g < l.length ∧ g ∉ ks) ∨ ∃ i, i < l'.length ∧ sg ks l.length i = g := fun g hg => by
     by_cases hh : g < l.length ∧ g ∉ ks
     · exact .inl hh
     · exact .inr (zz3 hml (by rw [← hlen]; exact hg) hh)
   have hfree1 : ∀ i, i < l'.length → (l'.getD i default).has (S1.cap i) → ¬ S1.keep (S1.place i) := fun i hi hh hkk => (hS1.grp i hi).has_ni (by rw [z2g]; exact hh) (.inr hkk)
   refine ⟨by rw [hn']; exact hlen.symm, fun g hg => ?_, fun g g' hg hg' hne h1 h2 => ?_, fun b hb => ?_⟩
   · rcases hcov g hg with ⟨h1, h2⟩ | ⟨i, hi, rfl⟩
     · have hr := hS.grp g h1
       obtain ⟨a1, a2, a3, a4⟩ := hoth g h1 h2
       rw [z2g] at hr ⊢
       rw [hatO g h1 h2]
       have hblk : (l.getD g default).has (S.cap g) → S'.w.heap[S.place g]? = S.w.heap[S.place g]? := fun hh => by
         have := ev.kept (S.place g) (.inr (hkS0 _ ((hO _).2 ⟨g, h1, h2, hh, rfl⟩)))
         rw [hw0] at this; rw [hwS']; exact this
       have hnik : (l.getD g default).has (S.cap g) → ¬ (S'.im (S.place g) ∨ S'.keep (S.place g)) := fun hh hik => by
         have ho : O (S.place g) := (hO _).2 ⟨g, h1, h2, hh, rfl⟩
         rcases hik with hik | hik
         · rcases ev.fresh (S.place g) (by subst hS'd; exact hik) with h3 | h3
           · exact hOfree _ ho (.inl (by subst hS0d; exact h3))
           · exact h3 (hkS0 _ ho)
         · subst hS'd; exact hik.2 ho
       refine ⟨by rw [a2]; exact hr.ver, by rw [a4]; exact hr.wid, fun hw hc => ?_, fun hw => by rw [a3]; exact hr.len hw, fun hw he => by rw [a3]; exact hr.full hw he, fun hw he => ?_⟩
       · rw [a3] at hc
         obtain ⟨⟨cells, T, vs, b1, b2, b3, b4⟩, ni⟩ := hr.live hw hc
         rw [a1, a3]
         exact ⟨⟨cells, T, vs, by rw [hblk (.inl ⟨hw, hc⟩)]; exact b1, b2, b3.mono hevo, b4⟩, hnik (.inl ⟨hw, hc⟩)⟩
       · obtain ⟨⟨es, clock, b1, b2⟩, ni⟩ := hr.mlive hw he
         rw [a1]
         exact ⟨⟨es, clock, by rw [hblk (.inr ⟨hw, he⟩)]; exact b1, b2.mono hevo⟩, hnik (.inr ⟨hw, he⟩)⟩
     · have hr := hS1.grp i hi
       obtain ⟨a1, a2, a3, a4⟩ := hour i
       rw [z2g] at hr ⊢
       rw [hatI i hi]
       have hnik : ¬ (S1.im (S1.place i) ∨ S1.keep (S1.place i)) → ¬ (S'.im (S1.place i) ∨ S'.keep (S1.place i)) := fun hh hik => by
         subst hS'd
         exact hh (hik.imp id fun h3 => h3.1)
       refine ⟨by rw [a2]; exact hr.ver, by rw [a4]; exact hr.wid, fun hw hc => ?_, fun hw => by rw [a3]; have := hr.len hw; simpa [renG, z9j] using this, fun hw he => by rw [a3]; have := hr.full hw he; simpa [renG, z9j] using this, fun hw he => ?_⟩
       · rw [a3] at hc
         obtain ⟨⟨cells, T, vs, b1, b2, b3, b4⟩, ni⟩ := hr.live hw hc
         rw [a1, a3]
         exact ⟨⟨cells, T, vs, by rw [hwS']; exact b1, b2, zaf hwS' hiS' hup _ b3, b4⟩, hnik ni⟩
       · obtain ⟨⟨es, clock, b1, b2⟩, ni⟩ := hr.mlive hw he
         rw [a1]
         exact ⟨⟨es, clock, by rw [hwS']; exact b1, zaf hwS' hiS' hup _ b2⟩, hnik ni⟩
   · have hmix : ∀ g i, g < l.length → g ∉ ks → i < l'.length → (l.getD g default).has (S.cap g) → (l'.getD i default).has (S1.cap i) → S.place g ≠ S1.place i := fun g i b1 b2 b3 b4 b5 e => by
       have h3 := ev.keep _ (hkS0 _ ((hO _).2 ⟨g, b1, b2, b4, rfl⟩))
       rw [e] at h3
       exact hfree1 i b3 b5 h3
     rw [z2g] at h1 h2
     rcases hcov g hg with ⟨c1, c2⟩ | ⟨i, hi, rfl⟩ <;> rcases hcov g' hg' with ⟨d1, d2⟩ | ⟨j, hj, rfl⟩
     · rw [hatO g c1 c2, (hoth g c1 c2).2.2.1] at h1
       rw [hatO g' d1 d2, (hoth g' d1 d2).2.2.1] at h2
       rw [(hoth g c1 c2).1, (hoth g' d1 d2).1]
       exact hS.apart g g' c1 d1 hne (by rw [z2g]; exact h1) (by rw [z2g]; exact h2)
     · rw [hatO g c1 c2, (hoth g c1 c2).2.2.1] at h1
       rw [hatI j hj, (hour j).2.2.1] at h2
       rw [(hoth g c1 c2).1, (hour j).1]
       exact hmix g j c1 c2 hj h1 h2
     · rw [hatI i hi, (hour i).2.2.1] at h1
       rw [hatO g' d1 d2, (hoth g' d1 d2).2.2.1] at h2
       rw [(hoth g' d1 d2).1, (hour i).1]
       exact fun e => hmix g' i d1 d2 hi h2 h1 e.symm
     · rw [hatI i hi, (hour i).2.2.1] at h1
       rw [hatI j hj, (hour j).2.2.1] at h2
       rw [(hour i).1, (hour j).1]
       exact hS1.apart i j hi hj (fun e => hne (by rw [e])) (by rw [z2g]; exact h1) (by rw [z2g]; exact h2)
   · rw [hwS']
     refine hS1.im b ?_
     subst hS'd
     exact hb.imp id fun h3 => h3.1
 exact ⟨v, S', _, _, he, by rw [hwS']; exact hw1, hevo, hrel', y19 hwS' hiS' hup y hv, hK'⟩
mutual
theorem zz4 (σ : Nat → Nat) : ∀ (x : AV), x.pure = true → ren σ x = x
 | .any, _ => rfl
 | .bool _, _ => rfl
 | .int _ _, _ => rfl
 | .str _, _ => rfl
 | .nilS, _ => rfl
 | .nul, _ => rfl
 | .emp, _ => rfl
 | .lst _ _, _ => rfl
 | .full _ _, _ => rfl
 | .cptr _, _ => rfl
 | .nilP, _ => rfl
 | .nilF, _ => rfl
 | .yld _, _ => rfl
 | .map _ _, h => by cases h
 | .ref _ _ _ _, h => by cases h
 | .ptr _ _ _ _, h => by cases h
 | .agg cs, h => by rw [ren, z7b σ cs h]
 | .tup cs, h => by rw [ren, z7b σ cs h]
 | .fn f cs, h => by rw [ren, z7b σ cs h]
theorem z7b (σ : Nat → Nat) : ∀ (xs : List AV), z0h xs = true → renL σ xs = xs
 | [], _ => rfl
 | x :: xs, h => by
   simp only [z0h, Bool.and_eq_true] at h
   rw [renL, zz4 σ x h.1, z7b σ xs h.2]
end
mutual
theorem zcu (m : Nat) : ∀ (x : AV), x.pure = true → ltV m x
 | .any, _ => trivial
 | .bool _, _ => trivial
 | .int _ _, _ => trivial
 | .str _, _ => trivial
 | .nilS, _ => trivial
 | .nul, _ => trivial
 | .emp, _ => trivial
 | .lst _ _, _ => trivial
 | .full _ _, _ => trivial
 | .cptr _, _ => trivial
 | .nilP, _ => trivial
 | .nilF, _ => trivial
 | .yld _, _ => trivial
 | .map _ _, h => by cases h
 | .ref _ _ _ _, h => by cases h
 | .ptr _ _ _ _, h => by cases h
 | .agg cs, h => z4d m cs h
 | .tup cs, h => z4d m cs h
 | .fn f cs, h => z4d m cs h
theorem z4d (m : Nat) : ∀ (xs : List AV), z0h xs = true → ltL m xs
 | [], _ => trivial
 | x :: xs, h => by
   simp only [z0h, Bool.and_eq_true] at h
   exact ⟨zcu m x h.1, z4d m xs h.2⟩
end
def renM (σ : Nat → Nat) (xs : List AV) : List AV := renL σ xs
def ltM (m : Nat) (xs : List AV) : Prop := ltL m xs
section
variable {ks : List Nat} {N i m g k v o n w f : Nat} {x : AV} {xs cs : List AV} {e : Bool} {G : Grp} {r l : List Grp}
theorem y4r : renL (sg ks N) xs = bif z0h xs then xs else renM (sg ks N) xs := by
 cases h : z0h xs
 · rfl
 · exact z7b _ xs h
theorem y8d : ltL m xs = ifB (z0h xs) (ltM m xs) := propext ⟨fun h => .inr h, fun h => h.elim (z4d m xs) id⟩
theorem zz5 : renM (sg ks N) [] = [] := rfl
theorem zum : renM (sg ks N) (x :: xs) = ren (sg ks N) x :: renM (sg ks N) xs := rfl
theorem y4s : ltM m [] = True := rfl
theorem zz6 : ltM m (x :: xs) = (ltV m x ∧ ltM m xs) := rfl
theorem y8e : ren (sg ks N) .any = .any := rfl
theorem y4t {b : Bool} : ren (sg ks N) (.bool b) = .bool b := rfl
theorem y8f {q : IntKind} {z : Int} : ren (sg ks N) (.int q z) = .int q z := rfl
theorem y8g {s : List UInt8} : ren (sg ks N) (.str s) = .str s := rfl
theorem y4u : ren (sg ks N) .nilS = .nilS := rfl
theorem y8h : ren (sg ks N) .nul = .nul := rfl
theorem y8i : ren (sg ks N) .emp = .emp := rfl
theorem y4v : ren (sg ks N) .nilP = .nilP := rfl
theorem y4w : ren (sg ks N) .nilF = .nilF := rfl
theorem y8j : ren (sg ks N) (.lst w xs) = .lst w xs := rfl
theorem y4x : ren (sg ks N) (.full w xs) = .full w xs := rfl
theorem y4y : ren (sg ks N) (.cptr x) = .cptr x := rfl
theorem y8k : ren (sg ks N) (.ref g v o n) = .ref (sg ks N g) v o n := rfl
theorem y8l : ren (sg ks N) (.ptr g v i o) = .ptr (sg ks N g) v i o := rfl
theorem y8m : ren (sg ks N) (.map g v) = .map (sg ks N g) v := rfl
theorem y8n : ren (sg ks N) (.agg cs) = .agg (renL (sg ks N) cs) := rfl
theorem y8o : ren (sg ks N) (.tup cs) = .tup (renL (sg ks N) cs) := rfl
theorem re_fn : ren (sg ks N) (.fn f cs) = .fn f (renL (sg ks N) cs) := rfl
theorem y8p : ltV m .any = True := rfl
theorem y4z {b : Bool} : ltV m (.bool b) = True := rfl
theorem y8q {q : IntKind} {z : Int} : ltV m (.int q z) = True := rfl
theorem y8r {s : List UInt8} : ltV m (.str s) = True := rfl
theorem y50 : ltV m .nilS = True := rfl
theorem y8s : ltV m .nul = True := rfl
theorem y8t : ltV m .emp = True := rfl
theorem y51 : ltV m .nilP = True := rfl
theorem y52 : ltV m .nilF = True := rfl
theorem y8u : ltV m (.lst w xs) = True := rfl
theorem y53 : ltV m (.full w xs) = True := rfl
theorem y54 : ltV m (.cptr x) = True := rfl
theorem y8v : ltV m (.ref g v o n) = (g < m) := rfl
theorem y8w : ltV m (.ptr g v i o) = (g < m) := rfl
theorem y8x : ltV m (.map g v) = (g < m) := rfl
theorem y8y : ltV m (.agg cs) = ltL m cs := rfl
theorem y8z : ltV m (.tup cs) = ltL m cs := rfl
theorem lv_fn : ltV m (.fn f cs) = ltL m cs := rfl
theorem sg_eq : sg ks N i = if i < ks.length then ks.getD i 0 else N + (i - ks.length) := rfl
theorem reG {σ : Nat → Nat} : renG σ ⟨w, v, e, xs⟩ = ⟨w, v, e, renL σ xs⟩ := rfl
theorem y90 : setG [] r l = l ++ r := rfl
theorem y55 : setG (k :: ks) (G :: r) l = setG ks r (l.set k G) := rfl
end
attribute [push_cast] y4r y8d zz5 zum y4s zz6 y8e y4t y8f y8g y4u y8h y8i y4v y4w y8j y4x y4y y8k y8l y8m y8n y8o re_fn
attribute [push_cast] y8p y4z y8q y8r y50 y8s y8t y51 y52 y8u y53 y54 y8v y8w y8x y8y y8z lv_fn sg_eq reG y90 y55 List.set_cons_zero List.set_cons_succ List.getD_cons_zero List.getD_cons_succ
theorem zah {P : Program} {f : Nat} {xs0 xs : List AV} {l0 l : List Grp} {K0 K : AV → z02 → Prop} (ks : List Nat) (h : z1f P f xs0 (hl l0) K0) (hn : ks.Nodup) (hk : ∀ k ∈ ks, k < l.length) (hxs : renL (sg ks l.length) xs0 = xs)
   (hl0 : l0.map (renG (sg ks l.length)) = ks.map (fun k => l.getD k default)) (hlt : ltL ks.length xs0) (hltG : ∀ G ∈ l0, ltL ks.length G.xs)
   (hK : ∀ y H', K0 y H' → ∃ l', H' = hl l' ∧ ks.length ≤ l'.length ∧ @nx (ren (sg ks l.length) y) (hl (setG ks (l'.map (renG (sg ks l.length))) l)) ⟨K⟩) : @zlh P f xs (hl l) ⟨K⟩ :=
 zj5 ks h hxs hl0 hn hk hlt hltG hK
section
variable {P : Program} {n b : Nat} {env : Env} {H : z02}
theorem zfg {S : MS} {l2 : List Grp} {H1 : z02} {ks : List Nat} {val : Nat → Value} (hS : SRel S (hl l2)) (hF : ∀ i, VRel S (rnV b H1 ks 6 (env i)) (val i)) : ∀ {live : List (Nat × AV)}, zaw l2 H1 b ks env live → ∀ i, VRel S (z3d live i) (val i)
 | [], _, i => trivial
 | (t, y) :: r, h, i => by
   show VRel S (if i = t then y else z3d r i) _
   split
   · rename_i hit
     subst hit
     exact zj0 (.inl hS) _ h.1 (hF i)
   · exact zfg hS hF h.2 i
theorem zh1 : ∀ (ws : List Nat) {S : MS} {l : List Grp} {val : Nat → Value}, (∀ w ∈ ws, 0 < w) → SRel S (hl l) → (∀ i, VRel S (env i) (val i)) → ∃ S', S'.w = S.w ∧ Evo S S' ∧ SRel S' (hl (l ++ ws.map z6z)) ∧ ∀ i, VRel S' (env i) (val i)
 | [], S, l, val, _, hS, hF => ⟨S, rfl, .refl S, by simpa using hS, hF⟩
 | w :: ws, S, l, val, hw, hS, hF => by
   have h1 := hS.virt w (hw w (by simp))
   rw [z3p] at h1
   obtain ⟨S', e1, e2, e3, e4⟩ := zh1 ws (S := S.virt w) (l := l ++ [z6z w]) (fun w' h' => hw w' (by simp [h'])) h1 (fun j => VRel.mono (Evo.virt _) _ (hF j))
   exact ⟨S', e1, (Evo.virt _).trans e2, by simpa using e3, e4⟩
theorem zz7 {srcs : List Src} {live : List (Nat × AV)} {heap : List Grp} {S : MS} {val : Nat → Value} (hh : Head b env H srcs live heap) (hbS : b ≤ S.n) (hS : SRel S H) (hF : ∀ i, VRel S (env i) (val i)) :
   ∃ S', S'.w = S.w ∧ BEvo b S S' ∧ SRel S' (hl heap) ∧ ∀ i, VRel S' (z3d live i) (val i) := by
 obtain ⟨hb, hh⟩ := hh
 have hgn : H.groups.length = H.n := by simp [z02.groups]
 have hS1 : SRel S (hl H.groups) := hS.congr hgn (fun g hg => by
   show H.groups.getD g default = _
   simp [z02.groups, List.getD, hg])
 obtain ⟨S2, e1, e2, e3, e4⟩ := zh1 (z47 H.n srcs).2 (z7z hh.1) hS1 hF
 replace hh := hh.2
 generalize hl1 : H.groups ++ (z47 H.n srcs).2.map z6z = l1 at *
 obtain ⟨h1, h2, h3, h4⟩ := hh
 have hb1 : b ≤ l1.length := by rw [← hl1, List.length_append]; omega
 have hbS2 : b ≤ S2.n := Nat.le_trans hbS e2.n
 obtain ⟨k1, k2⟩ := zcn (ks := (z47 H.n srcs).1) hb1
 have hev := z7x (ks := (z47 H.n srcs).1) e3 hbS2
 have hrel := (zad (ks := (z47 H.n srcs).1) 6 e3 hb1 (fun k hk => zc2 h1 k hk) (z6q h2)).congr k1 k2
 exact ⟨S2.repack b (hl l1) (z47 H.n srcs).1, e1, (e2.down hbS).trans hev, z7y hrel h4, zfg hrel (fun j => zqb e3 6 (e4 j)) h3⟩
def Drop (b : Nat) (y : AV) (H : z02) [K : HK] : Prop := ∃ srcs y' heap, Head b (z3d [(0, y)]) H srcs [(0, y')] heap ∧ K.f y' (hl heap)
theorem y1a {y : AV} {K : AV → z02 → Prop} (srcs : List Src) (y' : AV) (heap : List Grp) (h1 : Head b (z3d [(0, y)]) H srcs [(0, y')] heap) (h2 : K y' (hl heap)) : @Drop b y H ⟨K⟩ := ⟨srcs, y', heap, h1, h2⟩
theorem zcv {f : Nat} {xs : List AV} {l : List Grp} {K : AV → z02 → Prop} (h : z1f P f xs (hl l) (fun y H' => @Drop l.length y H' ⟨K⟩)) : z1f P f xs (hl l) K :=
 ⟨h.1, fun S cargs hS hx => (h.2 S cargs hS hx).mono fun e w' hh => by
   obtain ⟨v, S1, y, H', he, hw, ev, hS1, hv, srcs, y', heap, h1, h2⟩ := hh
   have hn : S.n = l.length := hS.n
   obtain ⟨S2, q1, q2, q3, q4⟩ := zz7 (S := S1) (val := fun i => if i = 0 then v else undef) h1 (by rw [← hn]; exact ev.n) hS1 (fun i => by
     show VRel S1 (if i = 0 then y else .any) _
     split
     · exact hv
     · trivial)
   have hb := (ev.down (b := l.length) (by omega)).trans q2
   exact ⟨v, S2, y', _, he, q1.trans hw, ⟨hb.base, hb.os, hb.tape, hb.output, hb.size, hb.kept, hb.im, hb.keep, hb.fresh, by rw [hn]; exact hb.n, fun g hg => hb.cur g (by omega), fun g hg => hb.same g (by omega)⟩, q3, q4 0, h2⟩⟩
theorem zz8 {f m np b : Nat} {xs : List AV} {l : List Grp} {K : AV → z02 → Prop} {res : List ARes} {B : AC} (hf : z0k P f xs.length = some ⟨m, np, res, B⟩) (hb : b = l.length) (h : W P m b B (entry xs) (hl l) (Ret P res fun y H' => @Drop b y H' ⟨K⟩)) : z1f P f xs (hl l) K := by
 subst hb
 exact zcv (zsp hf (W_T h))
end
theorem zz9 (env : Env) : setL env [] [] = env := rfl
theorem zun (env : Env) (p : Nat) (ps : List Nat) (x : AV) (r : List AV) : setL env (p :: ps) (x :: r) = setL (env.put (some p) x) ps r := rfl
attribute [push_cast] zz9 zun
section
variable {P : Program} {n b : Nat} {Q : Ex → Env → z02 → Prop}
def zcw (P : Program) (n b : Nat) (c : AC) (Q : Ex → Env → z02 → Prop) : Nat → Env → z02 → Prop
 | 0, _, _ => False
 | m + 1, env, H => T P n b c env H (Ex.then (zcw P n b c Q m) Q)
theorem zj6 {c : AC} {d : Code} (hd : z2z P n d = some c) {rd : Option Nat} {mm : Nat} (hrd : c.free = true ∨ rd = none) {S0 : MS} : ∀ (m : Nat) (env : Env) (H : z02) (S : MS) (a : Act), BEvo b S0 S → SRel S H → FRel S n env a → zcw P n b c Q m env H →
   Code.roundsIn (fen rd) mm P d (After S0 n b Q) m a S.w
 | 0, _, _, _, _, _, _, _, h => h.elim
 | m + 1, env, H, S, a, e0, hS, hF, h => by
   rw [Code.roundsIn]
   refine wpIn_mono (h rd mm hrd d hd S a e0.n hS hF) fun e a' w' hh => ?_
   obtain ⟨S2, env2, H2, z, rfl, e2, hS2, hF2, rfl, hq⟩ := hh
   cases z with
   | normal => exact zj6 hd hrd m env2 H2 S2 a' (e0.trans e2) hS2 hF2 hq
   | exit id => exact ⟨S2, env2, H2, .exit id, rfl, e0.trans e2, hS2, hF2, rfl, hq⟩
   | ret => exact ⟨S2, env2, H2, .ret, rfl, e0.trans e2, hS2, hF2, rfl, hq⟩
theorem zo5 {c : AC} {env : Env} {H : z02} (m : Nat) (h : zcw P n b c Q m env H) : T P n b (.loop c) env H Q := T_of fun rd mm hrd code hc hs S a hb hS hF => by
 cases code <;> simp only [z2z, reduceCtorEq, Option.some.injEq] at hc
 case loop d =>
   obtain ⟨x, hx, hh⟩ := Option.map_eq_some_iff.1 hc
   cases hh
   exact wpIn_loop_rounds m (zj6 hx hrd m env H S a (.refl hb) hS hF h)
 case region => exact absurd hc z1x
 case seq => split at hc <;> cases hc
 case cond => split at hc <;> cases hc
 case block => obtain ⟨_, _, h⟩ := Option.map_eq_some_iff.1 hc; cases h
 case rangeFunc => split at hc <;> cases hc
 case scope d => exact absurd rfl (hs d)
theorem z0m {c : AC} {env : Env} {H : z02} (m : Nat) (h : W P n b c env H (Ex.then (zcw P n b c Q m) Q)) : @z8e ⟨T P n b (.loop c) env H Q⟩ := zo5 (m + 1) (W_T h)
theorem z0w {c : AC} {env : Env} {H : z02} (m : Nat) (srcs : Env → List Src) (live : List (Nat × AV)) (heap : List Grp) (he : Head b env H (srcs env) live heap) (h : W P n b c (z3d live) (hl heap) (Ex.then (zcw P n b c Q m) Q)) : @z8e ⟨T P n b (.loop c) env H Q⟩ := zts he (zo5 (m + 1) (W_T h))
theorem z0b {c : AC} {env : Env} {H : z02} {m : Nat} (h : W P n b c env H (Ex.then (zcw P n b c Q m) Q)) : zcw P n b c Q (m + 1) env H := W_T h
end
theorem zh2 {S : MS} : ∀ {xs ys : List AV} {vs : List Value}, z03 S (xs ++ ys) vs → ∃ v1 v2, vs = v1 ++ v2 ∧ z03 S xs v1
 | [], ys, vs, h => ⟨[], vs, rfl, rfl⟩
 | x :: xs, ys, vs, h => by
   obtain ⟨v, r, rfl, h1, h2⟩ := h
   obtain ⟨v1, v2, rfl, h3⟩ := zh2 (xs := xs) (ys := ys) h2
   exact ⟨v :: v1, v2, rfl, v, v1, rfl, h1, h3⟩
theorem zqo {S : MS} {w v : Nat} {ex : Bool} {xs ys : List AV} (hw : 0 < w) (hS : SRel S (hl [⟨w, v, ex, xs ++ ys⟩])) : SRel S (hl [⟨w, v, false, xs⟩]) := by
 have h0 : GRel S ⟨w, v, ex, xs ++ ys⟩ 0 := hS.grp 0 (by show 0 < 1; omega)
 have hg : GRel S ⟨w, v, false, xs⟩ 0 := by
   refine ⟨h0.ver, h0.wid, fun _ hc => ?_, fun _ => ?_, fun _ h => (by cases h), fun h => ?_⟩
   · obtain ⟨⟨cells, TT, vs, a1, a2, a3, a4⟩, a5⟩ := h0.live hw hc
     obtain ⟨v1, v2, rfl, h1⟩ := zh2 a3
     refine ⟨⟨cells, TT, v1, a1, a2, h1, fun i u hu => a4 i u ?_⟩, a5⟩
     obtain ⟨hl1, _⟩ := List.getElem?_eq_some_iff.1 hu
     rw [List.getElem?_append_left hl1]; exact hu
   · have := h0.len hw
     simp only [List.length_append] at this
     show xs.length ≤ _
     omega
   · simp only at h; omega
 refine ⟨hS.n, fun g hg' => ?_, fun g g' a c hne => ?_, hS.im⟩
 · have hz : g < 1 := hg'
   obtain rfl : g = 0 := by omega
   exact hg
 · have a' : g < 1 := a
   have c' : g' < 1 := c
   omega
theorem zj7 {P : Program} {f : Nat} {args : List AV} {H : z02} {w v : Nat} {ex : Bool} {xs : List AV} {y0 : AV} (hw : 0 < w) (h : z1f P f args H fun y H' => ∃ ys, y = y0 ∧ H' = hl [⟨w, v, ex, xs ++ ys⟩]) : z1f P f args H fun y H' => y = y0 ∧ H' = hl [⟨w, v, false, xs⟩] :=
 ⟨h.1, fun S cargs hS hx => (h.2 S cargs hS hx).mono fun e w' hh => by
   obtain ⟨v, S1, y, H', he, hw', ev, hS1, hv, ys, rfl, rfl⟩ := hh
   exact ⟨v, S1, _, _, he, hw', ev, zqo hw hS1, hv, rfl, rfl⟩⟩
theorem y56 {P : Program} {f : Nat} {xs ys : List AV} {l : List Grp} {K : AV → z02 → Prop} (h1 : okA 4 ((hl l).only (z1m xs)) xs) (h2 : leSL [] (frA 4 ((hl l).only (z1m xs)) xs) ys) (h3 : @zlh P f ys (hl (z67 0 (z1m xs) l)) ⟨K⟩) : @zlh P f xs (hl l) ⟨K⟩ :=
 zf6 4 (z1m xs) (zcr h1) (z65 (z8z h2) h3)
def z2e (i : Nat) (ks : List Nat) : List Grp → List Grp → Prop
 | [], _ => True
 | _ :: _, [] => False
 | G :: l, G' :: l' => (i ∈ ks ∨ G = G') ∧ z2e (i + 1) ks l l'
theorem z2e.of {ks : List Nat} : ∀ {i : Nat} {l l' : List Grp}, z2e i ks l l' → l.length ≤ l'.length ∧ ∀ g, i + g ∉ ks → g < l.length → l'.getD g default = l.getD g default
 | _, [], _, _ => ⟨by simp, fun g _ h => absurd h (by simp)⟩
 | _, _ :: _, [], h => h.elim
 | i, G :: l, G' :: l', h => by
   obtain ⟨h1, h2⟩ := z2e.of h.2
   refine ⟨by simpa using h1, fun g hg hl => ?_⟩
   cases g with
   | zero =>
     rcases h.1 with h3 | h3
     · exact absurd h3 hg
     · simp [h3]
   | succ g =>
     have := h2 g (by rwa [show i + 1 + g = i + (g + 1) by omega]) (by simpa using hl)
     simpa using this
def effB (ks : List Nat) : AK → List Grp → List Grp → Prop
 | .app .., l, l' => z2e 0 ks l l'
 | .mkMap, l, l' => z2e 0 ks l l'
 | .mapSet, l, l' => z2e 0 ks l l'
 | _, _, _ => True
theorem zuo {ks : List Nat} {k : AK} {l l' : List Grp} (h : effB ks k l l') (h2 : k.eff = some 2) : l.length ≤ l'.length ∧ ∀ g, g ∉ ks → g < l.length → l'.getD g default = l.getD g default := by
 have key : z2e 0 ks l l' := by cases k <;> first | exact h | (simp [AK.eff] at h2)
 obtain ⟨a, c⟩ := key.of
 exact ⟨a, fun g hg => c g (by simpa using hg)⟩
def xk (P : Program) (ks : List Nat) : List Bool → List AOp → Env → List Grp → (Env → List Grp → Prop) → Prop
 | _, [], env, l, K => K env l
 | fl, ⟨dst, args, none, k⟩ :: r, env, l, K => (fl.headD false = true → z0u (· ∉ ks) (args.map (·.eval env))) ∧ @opG P k l (args.map (·.eval env)) ⟨fun x l' => effB ks k l l' ∧ xk P ks fl.tail r (env.put dst x) l' K⟩
 | fl, ⟨dst, args, some (d, want), k⟩ :: r, env, l, K => @z41 (env d) want
     ⟨(fl.headD false = true → z0u (· ∉ ks) (args.map (·.eval (env.put (some d) (.bool want))))) ∧ @opG P k l (args.map (·.eval (env.put (some d) (.bool want)))) ⟨fun x l' => effB ks k l l' ∧ xk P ks fl.tail r ((env.put (some d) (.bool want)).put dst x) l' K⟩⟩
     ⟨xk P ks fl.tail r ((env.put (some d) (.bool (!want))).put dst (.tup [])) l K⟩ ⟨xk P ks fl.tail r (env.put dst (.tup [])) l K⟩
theorem zcx (P : Program) (ks : List Nat) : ∀ (L : List AOp) (fl : List Bool) (env : Env) (l : List Grp) {K : Env → List Grp → Prop}, xk P ks fl L env l K → runX P ks fl L env l K
 | [], _, _, _, _, h => h
 | ⟨dst, args, none, k⟩ :: r, fl, env, l, K, h => by
   obtain ⟨h0, h'⟩ := h
   have := zac h'
   simp only [runX, z5d, AOp.vals, if_true]
   split at this
   · rename_i he
     rw [if_pos he]
     obtain ⟨x, h1, h2⟩ := this
     exact ⟨h0, x, h1, zcx P ks r _ _ _ h2.2⟩
   · rename_i he
     rw [if_neg he]
     obtain ⟨x, l', b1, b2, b3⟩ := this
     exact ⟨x, l', b1, b2, zuo b3.1, h0, zcx P ks r _ _ _ b3.2⟩
 | ⟨dst, args, some (d, want), k⟩ :: r, fl, env, l, K, h => by
   have h' : z5c (env d) want ((fl.headD false = true → z0u (· ∉ ks) (args.map (·.eval (env.put (some d) (.bool want))))) ∧ @opG P k l (args.map (·.eval (env.put (some d) (.bool want)))) ⟨fun x l' => effB ks k l l' ∧ xk P ks fl.tail r ((env.put (some d) (.bool want)).put dst x) l' K⟩)
     (xk P ks fl.tail r ((env.put (some d) (.bool (!want))).put dst (.tup [])) l K) (xk P ks fl.tail r (env.put dst (.tup [])) l K) := h
   simp only [runX, z5d, AOp.vals, if_true, Bool.false_eq_true, if_false]
   refine z8x (fun h1 => ?_) (fun h1 => zcx P ks r _ _ _ h1) (fun h1 => zcx P ks r _ _ _ h1) h'
   obtain ⟨h0, h1⟩ := h1
   have := zac h1
   split at this
   · rename_i he
     obtain ⟨x, h1, h2⟩ := this
     rw [if_pos he]
     exact ⟨h0, x, h1, zcx P ks r _ _ _ h2.2⟩
   · rename_i he
     rw [if_neg he]
     obtain ⟨x, l', b1, b2, b3⟩ := this
     exact ⟨x, l', b1, b2, zuo b3.1, h0, zcx P ks r _ _ _ b3.2⟩
section
variable {P : Program} {n b : Nat} {Q : Ex → Env → z02 → Prop} {ks : List Nat} {env : Env} {l : List Grp} {K : Env → List Grp → Prop} {fl : List Bool} {r : List AOp} {dst : Option Nat} {args : List AArg} {k : AK}
theorem z2f {L : List AOp} (ks : List Nat) (h : xk P ks fl L env l fun env' l' => Q .normal env' (hl l')) : @z8e ⟨T P n b (.grx fl L) env (hl l) Q⟩ := T_grx ks (zcx P ks L fl env l h)
theorem z5p {x : AV} {w : Bool} {p p2 q s : HP} (h : p.p = p2.p) : @z41 x w p q s = @z41 x w p2 q s := by cases p; cases p2; cases h; rfl
theorem xk1 : xk P ks fl [] env l K = K env l := by cases fl <;> rfl
theorem xk2 : xk P ks (false :: fl) (⟨dst, args, none, k⟩ :: r) env l K = @opG P k l (args.map (·.eval env)) ⟨fun x l' => effB ks k l l' ∧ xk P ks fl r (env.put dst x) l' K⟩ := propext ⟨fun h => h.2, fun h => ⟨fun h0 => (by cases h0), h⟩⟩
theorem xk3 : xk P ks (true :: fl) (⟨dst, args, none, k⟩ :: r) env l K = (z0u (· ∉ ks) (args.map (·.eval env)) ∧ @opG P k l (args.map (·.eval env)) ⟨fun x l' => effB ks k l l' ∧ xk P ks fl r (env.put dst x) l' K⟩) := propext ⟨fun h => ⟨h.1 rfl, h.2⟩, fun h => ⟨fun _ => h.1, h.2⟩⟩
theorem xk4 {d : Nat} {want : Bool} : xk P ks (false :: fl) (⟨dst, args, some (d, want), k⟩ :: r) env l K = @z41 (env d) want
     ⟨@opG P k l (args.map (·.eval (env.put (some d) (.bool want)))) ⟨fun x l' => effB ks k l l' ∧ xk P ks fl r ((env.put (some d) (.bool want)).put dst x) l' K⟩⟩
     ⟨xk P ks fl r ((env.put (some d) (.bool (!want))).put dst (.tup [])) l K⟩ ⟨xk P ks fl r (env.put dst (.tup [])) l K⟩ := z5p (propext ⟨fun h => h.2, fun h => ⟨fun h0 => (by cases h0), h⟩⟩)
theorem xk5 {d : Nat} {want : Bool} : xk P ks (true :: fl) (⟨dst, args, some (d, want), k⟩ :: r) env l K = @z41 (env d) want
     ⟨z0u (· ∉ ks) (args.map (·.eval (env.put (some d) (.bool want)))) ∧ @opG P k l (args.map (·.eval (env.put (some d) (.bool want)))) ⟨fun x l' => effB ks k l l' ∧ xk P ks fl r ((env.put (some d) (.bool want)).put dst x) l' K⟩⟩
     ⟨xk P ks fl r ((env.put (some d) (.bool (!want))).put dst (.tup [])) l K⟩ ⟨xk P ks fl r (env.put dst (.tup [])) l K⟩ := z5p (propext ⟨fun h => ⟨h.1 rfl, h.2⟩, fun h => ⟨fun _ => h.1, h.2⟩⟩)
variable {l2 : List Grp}
theorem xk6 {w s : Nat} {z : AV} : effB ks (.app w s z) l l2 = z2e 0 ks l l2 := rfl
theorem xk7 : effB ks .mapSet l l2 = z2e 0 ks l l2 := rfl
theorem xk8 : effB ks .mkMap l l2 = z2e 0 ks l l2 := rfl
theorem y91  : effB ks (.mv ) l l2 = True := rfl
theorem zup  : effB ks (.pick ) l l2 = True := rfl
theorem zo6 {a0 : AV} {a1 : Nat} : effB ks (.alloc a0 a1) l l2 = True := rfl
theorem y1b  : effB ks (.box ) l l2 = True := rfl
theorem zo7 {a0 : List AV} {a1 : List (Nat × Nat)} {a2 : List Nat} : effB ks (.build a0 a1 a2) l l2 = True := rfl
theorem zj8 {a0 : Nat} {a1 : Nat} {a2 : AV} {a3 : List Nat} : effB ks (.bslice a0 a1 a2 a3) l l2 = True := rfl
theorem zuq {a0 : Bool} {a1 : Nat} : effB ks (.load a0 a1) l l2 = True := rfl
theorem zo8 {a0 : Nat} : effB ks (.store a0) l l2 = True := rfl
theorem zcy  : effB ks (.nilCheck ) l l2 = True := rfl
theorem y1c {a0 : BinOp} : effB ks (.bin a0) l l2 = True := rfl
theorem y1d {a0 : Bool} : effB ks (.eqb a0) l l2 = True := rfl
theorem y1e {a0 : Bool} {a1 : List Nat} : effB ks (.eqs a0 a1) l l2 = True := rfl
theorem y1f {a0 : Bool} : effB ks (.eqn a0) l l2 = True := rfl
theorem y92 {a0 : UnOp} : effB ks (.un a0) l l2 = True := rfl
theorem zur {a0 : IntKind} : effB ks (.conv a0) l l2 = True := rfl
theorem zo9  : effB ks (.toStr ) l l2 = True := rfl
theorem zoa {a0 : Nat} {a1 : Bool} {a2 : Bool} {a3 : Bool} : effB ks (.slice a0 a1 a2 a3) l l2 = True := rfl
theorem zob {a0 : Bool} {a1 : Nat} {a2 : Nat} : effB ks (.faddr a0 a1 a2) l l2 = True := rfl
theorem zoc {a0 : Bool} {a1 : Nat} {a2 : Nat} : effB ks (.field a0 a1 a2) l l2 = True := rfl
theorem zod {a0 : Nat} : effB ks (.iaddr a0) l l2 = True := rfl
theorem zj9 {a0 : Nat} {a1 : Nat} {a2 : Bool} : effB ks (.iaddrA a0 a1 a2) l l2 = True := rfl
theorem zoe {a0 : Nat} {a1 : Nat} {a2 : Bool} : effB ks (.index a0 a1 a2) l l2 = True := rfl
theorem zcz  : effB ks (.indexStr ) l l2 = True := rfl
theorem zfh {a0 : Nat} : effB ks (.extract a0) l l2 = True := rfl
theorem y1g {a0 : Bool} : effB ks (.len a0) l l2 = True := rfl
theorem y1h  : effB ks (.max ) l l2 = True := rfl
theorem y1i  : effB ks (.min ) l l2 = True := rfl
theorem zfi {a0 : Nat} {a1 : Nat} {a2 : AV} : effB ks (.mkSlice a0 a1 a2) l l2 = True := rfl
theorem zja {a0 : Nat} : effB ks (.mkFunc a0) l l2 = True := rfl
theorem zjb {a0 : AV} : effB ks (.mapGet a0) l l2 = True := rfl
theorem zus  : effB ks (.call ) l l2 = True := rfl
theorem sb1 {i : Nat} : z2e i ks [] l = True := rfl
theorem sb2 {i : Nat} {G G2 : Grp} : z2e i ks (G :: l) (G2 :: l2) = ((i ∈ ks ∨ G = G2) ∧ z2e (i + 1) ks l l2) := rfl
end
theorem xx : type_of% (And.intro @xk1 <| And.intro @xk2 <| And.intro @xk3 <| And.intro @xk4 <| And.intro @xk5 <| And.intro @xk6 <| And.intro @xk7 <| And.intro @xk8 <| And.intro @y91 <| And.intro @zup <| And.intro @zo6 <| And.intro @y1b <| And.intro @zo7 <| And.intro @zj8 <| And.intro @zuq <| And.intro @zo8 <| And.intro @zcy <| And.intro @y1c <| And.intro @y1d <| And.intro @y1e <| And.intro @y1f <| And.intro @y92 <| And.intro @zur <| And.intro @zo9 <| And.intro @zoa <| And.intro @zob <| And.intro @zoc <| And.intro @zod <| And.intro @zj9 <| And.intro @zoe <| And.intro @zcz <| And.intro @zfh <| And.intro @y1g <| And.intro @y1h <| And.intro @y1i <| And.intro @zfi <| And.intro @zja <| And.intro @zjb <| And.intro @zus <| And.intro @sb1 <| @sb2) := And.intro @xk1 <| And.intro @xk2 <| And.intro @xk3 <| And.intro @xk4 <| And.intro @xk5 <| And.intro @xk6 <| And.intro @xk7 <| And.intro @xk8 <| And.intro @y91 <| And.intro @zup <| And.intro @zo6 <| And.intro @y1b <| And.intro @zo7 <| And.intro @zj8 <| And.intro @zuq <| And.intro @zo8 <| And.intro @zcy <| And.intro @y1c <| And.intro @y1d <| And.intro @y1e <| And.intro @y1f <| And.intro @y92 <| And.intro @zur <| And.intro @zo9 <| And.intro @zoa <| And.intro @zob <| And.intro @zoc <| And.intro @zod <| And.intro @zj9 <| And.intro @zoe <| And.intro @zcz <| And.intro @zfh <| And.intro @y1g <| And.intro @y1h <| And.intro @y1i <| And.intro @zfi <| And.intro @zja <| And.intro @zjb <| And.intro @zus <| And.intro @sb1 <| @sb2
theorem zza {P : Program} {l : List Grp} {xs : List AV} {K : AV → List Grp → Prop} : @opG P .mapSet l xs ⟨K⟩ = @opK P .mapSet (hl l) xs ⟨fun x H' => ∀ l', H' = hl l' → K x l'⟩ := (zql rfl rfl).trans (by simp only [AK.appOk, zgh, true_and])
attribute [push_cast] zyw zza
def effY (ks : List Nat) : AK → List Grp → List Grp → Prop
 | .app .., l, l' => z2e 0 ks l l'
 | .mkMap, l, l' => z2e 0 ks l l'
 | .mapSet, l, l' => z2e 0 ks l l'
 | .store _, l, l' => z2e 0 ks l l' ∧ l'.length = l.length
 | _, _, _ => True
theorem zh3 {ks : List Nat} {k : AK} {l l' : List Grp} (h : effY ks k l l') : ((k.eff = some 1 ∨ k.eff = some 2) → l.length ≤ l'.length ∧ ∀ g, g ∉ ks → g < l.length → l'.getD g default = l.getD g default) ∧ (k.eff = some 1 → l'.length = l.length) := by
 have key : (k.eff = some 1 ∨ k.eff = some 2) → z2e 0 ks l l' := fun h2 => by cases k <;> first | exact h | exact h.1 | (simp [AK.eff] at h2)
 refine ⟨fun h2 => ?_, fun h2 => by cases k <;> first | exact h.2 | (simp [AK.eff] at h2)⟩
 obtain ⟨a, c⟩ := (key h2).of
 exact ⟨a, fun g hg => c g (by simpa using hg)⟩
def gsOk : List (Option Nat) → List AOp → Bool
 | _, [] => true
 | gs, o :: r => (match gs.headD none with | some _ => o.guard.isNone && o.args.isEmpty | none => !o.k.laid) && gsOk gs.tail r
def xy (P : Program) (ks : List Nat) : List (Option Nat) → List Bool → List AOp → Env → List Grp → (Env → List Grp → Prop) → Prop
 | _, _, [], env, l, K => K env l
 | gs, fl, ⟨dst, args, none, k⟩ :: r, env, l, K => match gs.headD none with
   | some g => (match k with
     | .alloc z w => g < l.length ∧ (hl l).at_ g = ⟨w, 1, true, []⟩ ∧ g ∈ ks ∧ ∀ l', (hl l).set g ⟨w, 2, true, [z]⟩ = hl l' → xy P ks gs.tail fl.tail r (env.put dst (.ptr g 2 0 0)) l' K
     | _ => False)
   | none => (fl.headD false = true → z0u (· ∉ ks) (args.map (·.eval env))) ∧ @opG P k l (args.map (·.eval env)) ⟨fun x l' => effY ks k l l' ∧ xy P ks gs.tail fl.tail r (env.put dst x) l' K⟩
 | gs, fl, ⟨dst, args, some (d, want), k⟩ :: r, env, l, K => @z41 (env d) want
     ⟨(fl.headD false = true → z0u (· ∉ ks) (args.map (·.eval (env.put (some d) (.bool want))))) ∧ @opG P k l (args.map (·.eval (env.put (some d) (.bool want)))) ⟨fun x l' => effY ks k l l' ∧ xy P ks gs.tail fl.tail r ((env.put (some d) (.bool want)).put dst x) l' K⟩⟩
     ⟨xy P ks gs.tail fl.tail r ((env.put (some d) (.bool (!want))).put dst (.tup [])) l K⟩ ⟨xy P ks gs.tail fl.tail r (env.put dst (.tup [])) l K⟩
theorem zaz (P : Program) (ks : List Nat) : ∀ (L : List AOp) (gs : List (Option Nat)) (fl : List Bool) (env : Env) (l : List Grp) {K : Env → List Grp → Prop}, gsOk gs L = true → xy P ks gs fl L env l K → runY P ks fl L env l K
 | [], _, _, _, _, _, _, h => by simpa only [xy, runY] using h
 | ⟨dst, args, none, k⟩ :: r, gs, fl, env, l, K, hg, h => by
   simp only [gsOk, Bool.and_eq_true] at hg
   simp only [xy] at h
   simp only [runY, z5d, AOp.vals, if_true]
   cases hh : gs.headD none with
   | some g =>
     rw [hh] at h hg
     cases k <;> first | exact h.elim | skip
     rename_i z w
     obtain ⟨h1, h2, h3, h4⟩ := h
     have ha : args = [] := by
       cases args with
       | nil => rfl
       | cons _ _ => simp at hg
     subst ha
     rw [if_pos (show AK.laid (.alloc z w) = true from rfl)]
     exact ⟨_, _, ⟨rfl, z, w, g, rfl, h1, h2, h3, rfl, rfl⟩, zaz P ks r _ _ _ _ hg.2 (h4 _ (z5o _ _ _ h1))⟩
   | none =>
     rw [hh] at h hg
     have hl : k.laid = false := by simpa using hg.1
     rw [if_neg (by rw [hl]; simp)]
     obtain ⟨h0, h'⟩ := h
     have := zac h'
     split at this
     · rename_i he
       rw [if_pos he]
       obtain ⟨x, h1, h2⟩ := this
       exact ⟨h0, x, h1, zaz P ks r _ _ _ _ hg.2 h2.2⟩
     · rename_i he
       rw [if_neg he]
       obtain ⟨x, l', b1, b2, b3⟩ := this
       exact ⟨x, l', b1, b2, (zh3 b3.1).1, (zh3 b3.1).2, h0, zaz P ks r _ _ _ _ hg.2 b3.2⟩
 | ⟨dst, args, some (d, want), k⟩ :: r, gs, fl, env, l, K, hg, h => by
   simp only [gsOk, Bool.and_eq_true] at hg
   have hl : k.laid = false := by
     cases hh : gs.headD none with
     | some g => rw [hh] at hg; simp at hg
     | none => rw [hh] at hg; simpa using hg.1
   have h' : z5c (env d) want ((fl.headD false = true → z0u (· ∉ ks) (args.map (·.eval (env.put (some d) (.bool want))))) ∧ @opG P k l (args.map (·.eval (env.put (some d) (.bool want)))) ⟨fun x l' => effY ks k l l' ∧ xy P ks gs.tail fl.tail r ((env.put (some d) (.bool want)).put dst x) l' K⟩)
     (xy P ks gs.tail fl.tail r ((env.put (some d) (.bool (!want))).put dst (.tup [])) l K) (xy P ks gs.tail fl.tail r (env.put dst (.tup [])) l K) := h
   simp only [runY, z5d, AOp.vals, if_true, Bool.false_eq_true, if_false]
   refine z8x (fun h1 => ?_) (fun h1 => zaz P ks r _ _ _ _ hg.2 h1) (fun h1 => zaz P ks r _ _ _ _ hg.2 h1) h'
   rw [if_neg (by rw [hl]; simp)]
   obtain ⟨h0, h1⟩ := h1
   have := zac h1
   split at this
   · rename_i he
     obtain ⟨x, h1, h2⟩ := this
     rw [if_pos he]
     exact ⟨h0, x, h1, zaz P ks r _ _ _ _ hg.2 h2.2⟩
   · rename_i he
     rw [if_neg he]
     obtain ⟨x, l', b1, b2, b3⟩ := this
     exact ⟨x, l', b1, b2, (zh3 b3.1).1, (zh3 b3.1).2, h0, zaz P ks r _ _ _ _ hg.2 b3.2⟩
section
variable {P : Program} {n b : Nat} {Q : Ex → Env → z02 → Prop} {ks : List Nat} {gs : List (Option Nat)} {g : Nat} {env : Env} {l : List Grp} {K : Env → List Grp → Prop} {f : Bool} {fl : List Bool} {r : List AOp} {dst : Option Nat} {args : List AArg} {k : AK}
theorem zh4 {L : List AOp} (ks : List Nat) (ws : List Nat) (gs : List (Option Nat)) (hw : ∀ w ∈ ws, 0 < w) (hg : gsOk gs L = true) (h : xy P ks gs fl L env (l ++ ws.map z6z) fun env' l' => Q .normal env' (hl l')) : @z8e ⟨T P n b (.gry fl L) env (hl l) Q⟩ := zlm ws hw (y6f ks (zaz P ks L gs fl env _ hg h))
theorem xy1 : xy P ks gs fl [] env l K = K env l := by simp only [xy]
theorem xy2 : xy P ks (none :: gs) (false :: fl) (⟨dst, args, none, k⟩ :: r) env l K = @opG P k l (args.map (·.eval env)) ⟨fun x l' => effY ks k l l' ∧ xy P ks gs fl r (env.put dst x) l' K⟩ := by simp only [xy]; exact propext ⟨fun h => h.2, fun h => ⟨fun h0 => (by cases h0), h⟩⟩
theorem xy3 : xy P ks (none :: gs) (true :: fl) (⟨dst, args, none, k⟩ :: r) env l K = (z0u (· ∉ ks) (args.map (·.eval env)) ∧ @opG P k l (args.map (·.eval env)) ⟨fun x l' => effY ks k l l' ∧ xy P ks gs fl r (env.put dst x) l' K⟩) := by simp only [xy]; exact propext ⟨fun h => ⟨h.1 rfl, h.2⟩, fun h => ⟨fun _ => h.1, h.2⟩⟩
theorem xy4 {d : Nat} {want : Bool} : xy P ks (none :: gs) (false :: fl) (⟨dst, args, some (d, want), k⟩ :: r) env l K = @z41 (env d) want
     ⟨@opG P k l (args.map (·.eval (env.put (some d) (.bool want)))) ⟨fun x l' => effY ks k l l' ∧ xy P ks gs fl r ((env.put (some d) (.bool want)).put dst x) l' K⟩⟩
     ⟨xy P ks gs fl r ((env.put (some d) (.bool (!want))).put dst (.tup [])) l K⟩ ⟨xy P ks gs fl r (env.put dst (.tup [])) l K⟩ := by simp only [xy]; exact z5p (propext ⟨fun h => h.2, fun h => ⟨fun h0 => (by cases h0), h⟩⟩)
theorem xy5 {d : Nat} {want : Bool} : xy P ks (none :: gs) (true :: fl) (⟨dst, args, some (d, want), k⟩ :: r) env l K = @z41 (env d) want
     ⟨z0u (· ∉ ks) (args.map (·.eval (env.put (some d) (.bool want)))) ∧ @opG P k l (args.map (·.eval (env.put (some d) (.bool want)))) ⟨fun x l' => effY ks k l l' ∧ xy P ks gs fl r ((env.put (some d) (.bool want)).put dst x) l' K⟩⟩
     ⟨xy P ks gs fl r ((env.put (some d) (.bool (!want))).put dst (.tup [])) l K⟩ ⟨xy P ks gs fl r (env.put dst (.tup [])) l K⟩ := by simp only [xy]; exact z5p (propext ⟨fun h => ⟨h.1 rfl, h.2⟩, fun h => ⟨fun _ => h.1, h.2⟩⟩)
theorem xy6 {z : AV} {w : Nat} : xy P ks (some g :: gs) (f :: fl) (⟨dst, args, none, .alloc z w⟩ :: r) env l K = (g < l.length ∧ (hl l).at_ g = ⟨w, 1, true, []⟩ ∧ g ∈ ks ∧ ∀ l', (hl l).set g ⟨w, 2, true, [z]⟩ = hl l' → xy P ks gs fl r (env.put dst (.ptr g 2 0 0)) l' K) := by simp only [xy]; rfl
theorem xy7 : xy P ks [] fl (⟨dst, args, none, k⟩ :: r) env l K = xy P ks [none] fl (⟨dst, args, none, k⟩ :: r) env l K := by simp only [xy]; rfl
theorem xy8 {d : Nat} {want : Bool} : xy P ks [] fl (⟨dst, args, some (d, want), k⟩ :: r) env l K = xy P ks [none] fl (⟨dst, args, some (d, want), k⟩ :: r) env l K := by simp only [xy]; rfl
variable {l2 : List Grp}
theorem y1j {w s : Nat} {z : AV} : effY ks (.app w s z) l l2 = z2e 0 ks l l2 := rfl
theorem zjc : effY ks .mapSet l l2 = z2e 0 ks l l2 := rfl
theorem zof : effY ks .mkMap l l2 = z2e 0 ks l l2 := rfl
theorem zog {s : Nat} : effY ks (.store s) l l2 = (z2e 0 ks l l2 ∧ l2.length = l.length) := rfl
theorem y93  : effY ks (.mv ) l l2 = True := rfl
theorem zut  : effY ks (.pick ) l l2 = True := rfl
theorem zoh {a0 : AV} {a1 : Nat} : effY ks (.alloc a0 a1) l l2 = True := rfl
theorem y1k  : effY ks (.box ) l l2 = True := rfl
theorem zoi {a0 : List AV} {a1 : List (Nat × Nat)} {a2 : List Nat} : effY ks (.build a0 a1 a2) l l2 = True := rfl
theorem zjd {a0 : Nat} {a1 : Nat} {a2 : AV} {a3 : List Nat} : effY ks (.bslice a0 a1 a2 a3) l l2 = True := rfl
theorem zuu {a0 : Bool} {a1 : Nat} : effY ks (.load a0 a1) l l2 = True := rfl
theorem zd0  : effY ks (.nilCheck ) l l2 = True := rfl
theorem y1l {a0 : BinOp} : effY ks (.bin a0) l l2 = True := rfl
theorem y1m {a0 : Bool} : effY ks (.eqb a0) l l2 = True := rfl
theorem y1n {a0 : Bool} {a1 : List Nat} : effY ks (.eqs a0 a1) l l2 = True := rfl
theorem y1o {a0 : Bool} : effY ks (.eqn a0) l l2 = True := rfl
theorem y94 {a0 : UnOp} : effY ks (.un a0) l l2 = True := rfl
theorem zuv {a0 : IntKind} : effY ks (.conv a0) l l2 = True := rfl
theorem zoj  : effY ks (.toStr ) l l2 = True := rfl
theorem zok {a0 : Nat} {a1 : Bool} {a2 : Bool} {a3 : Bool} : effY ks (.slice a0 a1 a2 a3) l l2 = True := rfl
theorem zol {a0 : Bool} {a1 : Nat} {a2 : Nat} : effY ks (.faddr a0 a1 a2) l l2 = True := rfl
theorem zom {a0 : Bool} {a1 : Nat} {a2 : Nat} : effY ks (.field a0 a1 a2) l l2 = True := rfl
theorem zon {a0 : Nat} : effY ks (.iaddr a0) l l2 = True := rfl
theorem zje {a0 : Nat} {a1 : Nat} {a2 : Bool} : effY ks (.iaddrA a0 a1 a2) l l2 = True := rfl
theorem zoo {a0 : Nat} {a1 : Nat} {a2 : Bool} : effY ks (.index a0 a1 a2) l l2 = True := rfl
theorem zd1  : effY ks (.indexStr ) l l2 = True := rfl
theorem zfj {a0 : Nat} : effY ks (.extract a0) l l2 = True := rfl
theorem y1p {a0 : Bool} : effY ks (.len a0) l l2 = True := rfl
theorem y1q  : effY ks (.max ) l l2 = True := rfl
theorem y1r  : effY ks (.min ) l l2 = True := rfl
theorem zfk {a0 : Nat} {a1 : Nat} {a2 : AV} : effY ks (.mkSlice a0 a1 a2) l l2 = True := rfl
theorem zjf {a0 : Nat} : effY ks (.mkFunc a0) l l2 = True := rfl
theorem zjg {a0 : AV} : effY ks (.mapGet a0) l l2 = True := rfl
theorem zuw  : effY ks (.call ) l l2 = True := rfl
end
theorem yy : type_of% (And.intro @xy1 <| And.intro @xy2 <| And.intro @xy3 <| And.intro @xy4 <| And.intro @xy5 <| And.intro @xy6 <| And.intro @xy7 <| And.intro @xy8 <| And.intro @y1j <| And.intro @zjc <| And.intro @zof <| And.intro @zog <| And.intro @y93 <| And.intro @zut <| And.intro @zoh <| And.intro @y1k <| And.intro @zoi <| And.intro @zjd <| And.intro @zuu <| And.intro @zd0 <| And.intro @y1l <| And.intro @y1m <| And.intro @y1n <| And.intro @y1o <| And.intro @y94 <| And.intro @zuv <| And.intro @zoj <| And.intro @zok <| And.intro @zol <| And.intro @zom <| And.intro @zon <| And.intro @zje <| And.intro @zoo <| And.intro @zd1 <| And.intro @zfj <| And.intro @y1p <| And.intro @y1q <| And.intro @y1r <| And.intro @zfk <| And.intro @zjf <| And.intro @zjg <| And.intro @zuw <| And.intro @sb1 <| @sb2) := And.intro @xy1 <| And.intro @xy2 <| And.intro @xy3 <| And.intro @xy4 <| And.intro @xy5 <| And.intro @xy6 <| And.intro @xy7 <| And.intro @xy8 <| And.intro @y1j <| And.intro @zjc <| And.intro @zof <| And.intro @zog <| And.intro @y93 <| And.intro @zut <| And.intro @zoh <| And.intro @y1k <| And.intro @zoi <| And.intro @zjd <| And.intro @zuu <| And.intro @zd0 <| And.intro @y1l <| And.intro @y1m <| And.intro @y1n <| And.intro @y1o <| And.intro @y94 <| And.intro @zuv <| And.intro @zoj <| And.intro @zok <| And.intro @zol <| And.intro @zom <| And.intro @zon <| And.intro @zje <| And.intro @zoo <| And.intro @zd1 <| And.intro @zfj <| And.intro @y1p <| And.intro @y1q <| And.intro @y1r <| And.intro @zfk <| And.intro @zjf <| And.intro @zjg <| And.intro @zuw <| And.intro @sb1 <| @sb2
def Ent (n b : Nat) (env : Env) (H : z02) (env' : Env) (H' : z02) : Prop := ∀ (S : MS) (val : Nat → Value), b ≤ S.n → SRel S H → (∀ i, i < n → VRel S (env i) (val i)) →
 ∃ S', S'.w = S.w ∧ BEvo b S S' ∧ SRel S' H' ∧ ∀ i, i < n → VRel S' (env' i) (val i)
section
variable {P : Program} {n b : Nat} {env env' : Env} {H H' : z02} {Q : Ex → Env → z02 → Prop}
theorem Ent.refl : Ent n b env H env H := fun S val hb hS hv => ⟨S, rfl, .refl hb, hS, hv⟩
theorem Ent.trans {env2 : Env} {H2 : z02} (h1 : Ent n b env H env' H') (h2 : Ent n b env' H' env2 H2) : Ent n b env H env2 H2 := fun S val hb hS hv => by
 obtain ⟨S1, a1, a2, a3, a4⟩ := h1 S val hb hS hv
 obtain ⟨S2, c1, c2, c3, c4⟩ := h2 S1 val a2.n a3 a4
 exact ⟨S2, c1.trans a1, a2.trans c2, c3, c4⟩
theorem zqp {c : AC} (he : Ent n b env H env' H') (h : T P n b c env' H' Q) : T P n b c env H Q := by
 intro rd mm hrd code hc S a hbS hS hF
 obtain ⟨S', hw, hev, hS', hv⟩ := he S (fun i => a.tmps.getD i undef) hbS hS hF.val
 have := h rd mm hrd code hc S' a hev.n hS' ⟨hF.size, hF.defers.of hev.base hev.size hev.keep hev.fresh (fun b hb => hev.kept b (.inr hb)), hv⟩
 rw [hw] at this
 exact wpIn_mono this fun e a w hh => hh.trans hev
theorem zux {σ : Type} (Fact : σ → Prop) (μ : σ → Nat) (envs : σ → Env) (heap : σ → z02) {c : AC} (s0 : σ) (h0 : Fact s0) (he : Ent n b env H (envs s0) (heap s0))
   (round : ∀ s, Fact s → T P n b c (envs s) (heap s) (Ex.then (fun env' H' => ∃ s', Ent n b env' H' (envs s') (heap s') ∧ Fact s' ∧ μ s' < μ s) Q)) : T P n b (.loop c) env H Q := by
 refine y12 (fun s env H => Fact s ∧ Ent n b env H (envs s) (heap s)) μ s0 ⟨h0, he⟩ fun s env H hI => ?_
 refine zqp hI.2 (T.mono (round s hI.1) fun x env' H' hh => ?_)
 cases x with
 | normal => obtain ⟨s', k1, k2, k3⟩ := hh; exact ⟨s', ⟨k2, k1⟩, k3⟩
 | exit id => exact hh
 | ret => exact hh
theorem z80 (live : List (Nat × AV)) (h : ∀ p ∈ live, env p.1 = p.2) : Ent n b env H (z3d live) H := fun S val hb hS hv => by
 refine ⟨S, rfl, .refl hb, hS, fun i hi => ?_⟩
 have key : ∀ (l : List (Nat × AV)), (∀ p ∈ l, env p.1 = p.2) → VRel S (z3d l i) (val i) := fun l => by
   induction l with
   | nil => exact fun _ => trivial
   | cons p l ih =>
     intro hp
     obtain ⟨t, y⟩ := p
     show VRel S (if i = t then y else z3d l i) _
     split
     · rename_i hit
       subst hit
       have e : env i = y := hp (i, y) (by simp)
       rw [← e]
       exact hv i hi
     · exact ih fun p hp' => hp p (by simp [hp'])
 exact key live h
mutual
theorem zop : ∀ x : AV, ren (fun g => g) x = x
 | .any | .bool _ | .int _ _ | .str _ | .nilS | .nul | .emp | .nilP | .nilF | .yld _ | .lst _ _ | .full _ _ | .cptr _ | .map _ _ | .ref _ _ _ _ | .ptr _ _ _ _ => rfl
 | .agg cs => by rw [ren, z7c cs]
 | .tup cs => by rw [ren, z7c cs]
 | .fn f cs => by rw [ren, z7c cs]
theorem z7c : ∀ xs : List AV, renL (fun g => g) xs = xs
 | [] => rfl
 | x :: xs => by rw [renL, zop x, z7c xs]
end
theorem zh5 {l gar : List Grp} (hb : b ≤ l.length) (hcl : ∀ G ∈ l, ltL l.length G.xs) (hlive : ∀ i, i < n → ltV l.length (env i)) : Ent n b env (hl (l ++ gar)) env (hl l) := fun S val hbS hS hv => by
 have hn : S.n = l.length + gar.length := by rw [← List.length_append]; exact hS.n
 have hat : ∀ g, g < l.length → (hl (l ++ gar)).at_ g = (hl l).at_ g := fun g hg => by
   rw [z2g, z2g]; simp [List.getD, List.getElem?_append_left hg]
 let S' : MS := { S with n := l.length }
 have hdown : ∀ (x : AV) {v : Value}, ltV l.length x → VRel S x v → VRel S' x v := fun x v hx h => by
   rw [← zop x] at h
   exact zo3 (A := S') (B := S) (σ := fun g => g) (m := l.length) rfl (fun b hb => hb) (fun g hg => ⟨hg, rfl, rfl, rfl, rfl⟩) x hx h
 have hdownL : ∀ (xs : List AV) {vs : List Value}, ltL l.length xs → z03 S xs vs → z03 S' xs vs := fun xs vs hx h => by
   rw [← z7c xs] at h
   exact z4w (A := S') (B := S) (σ := fun g => g) (m := l.length) rfl (fun b hb => hb) (fun g hg => ⟨hg, rfl, rfl, rfl, rfl⟩) xs hx h
 refine ⟨S', rfl, ⟨rfl, rfl, rfl, rfl, Nat.le_refl _, fun _ _ => rfl, fun _ h => h, fun _ h => h, fun _ h => .inl h, hb, fun _ _ => Nat.le_refl _, fun _ _ _ => ⟨rfl, rfl, rfl⟩⟩, ⟨rfl, fun g hg => ?_, fun g g' hg hg' hne hw hw' => ?_, hS.im⟩, fun i hi => hdown _ (hlive i hi) (hv i hi)⟩
 · have hg' : g < l.length := hg
   have hG := hS.grp g (by show g < (l ++ gar).length; rw [List.length_append]; omega)
   rw [hat g hg'] at hG
   have hm : (hl l).at_ g ∈ l := by rw [z2g, List.getD_eq_getElem?_getD, List.getElem?_eq_getElem hg']; exact List.getElem_mem _
   have hc := hcl _ hm
   refine ⟨hG.ver, hG.wid, fun hw hcap => ?_, hG.len, hG.full, fun hw he => ?_⟩
   · obtain ⟨⟨cells, TT, vs, a1, a2, a3, a4⟩, a5⟩ := hG.live hw hcap
     exact ⟨⟨cells, TT, vs, a1, a2, hdownL _ hc a3, a4⟩, a5⟩
   · obtain ⟨⟨es, clock, a1, a2⟩, a5⟩ := hG.mlive hw he
     exact ⟨⟨es, clock, a1, hdownL _ hc a2⟩, a5⟩
 · have hg1 : g < l.length := hg
   have hg2 : g' < l.length := hg'
   rw [← hat g hg1] at hw
   rw [← hat g' hg2] at hw'
   exact hS.apart g g' (by show g < (l ++ gar).length; rw [List.length_append]; omega) (by show g' < (l ++ gar).length; rw [List.length_append]; omega) hne hw hw'
theorem zoq {l : List Grp} (ws : List Nat) (hw : ∀ w ∈ ws, 0 < w) : Ent n b env (hl l) env (hl (l ++ ws.map z6z)) := fun S val hbS hS hv => by
 obtain ⟨S', e1, e2, e3, e4⟩ := zh1 ws (env := fun i => if i < n then env i else .any) (val := val) hw hS (fun i => by
   show VRel S (if i < n then env i else .any) _
   split
   · exact hv i (by assumption)
   · trivial)
 refine ⟨S', e1, e2.down hbS, e3, fun i hi => ?_⟩
 have := e4 i
 simp only [if_pos hi] at this
 exact this
theorem y1s {l l' : List Grp} (h : z7a l l l') (hv : ∀ i, i < n → leS l (env i) (env' i)) : Ent n b env (hl l) env' (hl l') := fun S val hbS hS hval =>
 ⟨S, rfl, .refl hbS, z7y hS h, fun i hi => zj0 (.inl hS) _ (hv i hi) (hval i hi)⟩
theorem zuy (i d : Nat) (ks : List Nat) (hok : z2j d (H.only ks) (env i)) : Ent n b env H (env.put (some i) (frzV d (H.only ks) (env i))) (H.kill ks) := fun S val hbS hS hv => by
 refine ⟨S.kill H ks, rfl, (z7w ks hS).down hbS, zgv ks hS, fun j hj => ?_⟩
 show VRel _ (if j = i then _ else _) _
 split
 · rename_i hji
   subst hji
   exact zgw ks hS d hok (hv j hj)
 · exact VRel.mono (z7w ks hS) _ (hv j hj)
theorem y57 {c : AC} (he : Ent n b env H env' H') (h : @z8e ⟨T P n b c env' H' Q⟩) : @z8e ⟨T P n b c env H Q⟩ := zqp he h
end
theorem zh6 {S : MS} {l : List Grp} {g w v : Nat} {ex : Bool} {xs ys : List AV} (hw : 0 < w) (hlt : g < l.length) (hg : l.getD g default = ⟨w, v, ex, xs ++ ys⟩) (hS : SRel S (hl l)) : SRel S (hl (l.set g ⟨w, v, false, xs⟩)) := by
 have h0 : GRel S ⟨w, v, ex, xs ++ ys⟩ g := by have := hS.grp g hlt; rwa [z2g, hg] at this
 have hG : GRel S ⟨w, v, false, xs⟩ g := by
   refine ⟨h0.ver, h0.wid, fun _ hc => ?_, fun _ => ?_, fun _ h => (by cases h), fun h => ?_⟩
   · obtain ⟨⟨cells, TT, vs, a1, a2, a3, a4⟩, a5⟩ := h0.live hw hc
     obtain ⟨v1, v2, rfl, h1⟩ := zh2 a3
     refine ⟨⟨cells, TT, v1, a1, a2, h1, fun i u hu => a4 i u ?_⟩, a5⟩
     obtain ⟨hl1, _⟩ := List.getElem?_eq_some_iff.1 hu
     rw [List.getElem?_append_left hl1]; exact hu
   · have := h0.len hw
     simp only [List.length_append] at this
     show xs.length ≤ _
     omega
   · simp only at h; omega
 have hat : ∀ j, (hl (l.set g ⟨w, v, false, xs⟩)).at_ j = if j = g then ⟨w, v, false, xs⟩ else (hl l).at_ j := fun j => by
   rw [z2g, z2g]
   by_cases e : j = g
   · subst e; rw [if_pos rfl]; exact z8t _ hlt
   · rw [if_neg e]; exact z4v _ (Ne.symm e)
 have hn : (hl (l.set g ⟨w, v, false, xs⟩)).n = (hl l).n := by simp [hl]
 have hhas : ∀ j, ((hl (l.set g ⟨w, v, false, xs⟩)).at_ j).has (S.cap j) → ((hl l).at_ j).has (S.cap j) := fun j h => by
   rw [hat] at h
   by_cases e : j = g
   · subst e
     rw [if_pos rfl] at h
     rw [z2g, hg]
     rcases h with h | ⟨_, h⟩
     · exact .inl h
     · cases h
   · rw [if_neg e] at h; exact h
 refine ⟨hS.n.trans hn.symm, fun j hj => ?_, fun j j' a c hne p q => hS.apart j j' (by rwa [hn] at a) (by rwa [hn] at c) hne (hhas j p) (hhas j' q), hS.im⟩
 rw [hat]
 by_cases e : j = g
 · subst e; rw [if_pos rfl]; exact hG
 · rw [if_neg e]; exact hS.grp j (by rwa [hn] at hj)
theorem zuz {n b : Nat} {env : Env} {l : List Grp} {g w v : Nat} {ex : Bool} (xs ys : List AV) (hw : 0 < w) (hlt : g < l.length) (hg : l.getD g default = ⟨w, v, ex, xs ++ ys⟩) : Ent n b env (hl l) env (hl (l.set g ⟨w, v, false, xs⟩)) :=
 fun S val hb hS hv => ⟨S, rfl, .refl hb, zh6 hw hlt hg hS, hv⟩
end Go.Proofs.Yticodgjinajkpaa.Abs
namespace Go.Proofs.Yticodgjinajkpaa
open Abs
structure Span where
 lo : Int
 hi : Int
 deriving DecidableEq, Inhabited
structure Part where
 at_ : Int
 drop : Int
 take : Int
 up : Int
 deriving DecidableEq, Inhabited
structure Term where
 base : Int
 drop : Int
 take : Int
 up : Int
 sum : Int
 parts : List Part
 deriving DecidableEq, Inhabited
structure Rule where
 from_ : Int
 to_ : Int
 guards : List (List Span)
 eat : Int
 out : List Term
 deriving DecidableEq, Inhabited
structure z5m where
 from_ : Int
 guards : List (List Span)
 out : List Term
 deriving DecidableEq, Inhabited
structure Desc where
 in_ : Int
 out : Int
 states : Int
 start : Int
 rules : List Rule
 finals : List z5m
 deriving DecidableEq, Inhabited
abbrev z4k (l : List Int) : AV := .lst 1 (l.map (AV.int .i64))
abbrev y1t (l : List Int) : AV := .lst 1 (l.map (AV.int .i32))
abbrev zb0 (l : List Bool) : AV := .lst 1 (l.map AV.bool)
abbrev z1p (s : Span) : AV := .agg [.int .i64 s.lo, .int .i64 s.hi]
abbrev z06 (l : List Span) : AV := .lst 2 (l.map z1p)
abbrev z0d (l : List (List Span)) : AV := .lst 1 (l.map z06)
abbrev z2d (p : Part) : AV := .agg [.int .i64 p.at_, .int .i64 p.drop, .int .i64 p.take, .int .i64 p.up]
abbrev z0s (l : List Part) : AV := .lst 4 (l.map z2d)
abbrev z1s (t : Term) : AV := .agg [.int .i64 t.base, .int .i64 t.drop, .int .i64 t.take, .int .i64 t.up, .int .i64 t.sum, z0s t.parts]
abbrev z37 (l : List Term) : AV := .lst 6 (l.map z1s)
abbrev zbu (r : Rule) : AV := .agg [.int .i64 r.from_, .int .i64 r.to_, z0d r.guards, .int .i64 r.eat, z37 r.out]
abbrev zd2 (f : z5m) : AV := .agg [.int .i64 f.from_, z0d f.guards, z37 f.out]
abbrev z5q (l : List Rule) : AV := .lst 5 (l.map zbu)
abbrev zd3 (l : List z5m) : AV := .lst 3 (l.map zd2)
abbrev z2r (d : Desc) : AV := .agg [.int .i64 d.in_, .int .i64 d.out, .int .i64 d.states, .int .i64 d.start, z5q d.rules, zd3 d.finals]
theorem z3e (l : List Span) : z0h (l.map z1p) = true := z3j (fun _ => rfl) l
theorem z68 (l : List Part) : z0h (l.map z2d) = true := z3j (fun _ => rfl) l
theorem z07 (l : List (List Span)) : z0h (l.map z06) = true := z3j (fun s => by simp only [z06, AV.pure, z3e]) l
theorem z0z (l : List Term) : z0h (l.map z1s) = true := z3j (fun s => by simp [z1s, AV.pure, z0h, z68]) l
theorem z1a (l : List Rule) : z0h (l.map zbu) = true := z3j (fun s => by simp [zbu, AV.pure, z0h, z07, z0z]) l
theorem z1b (l : List z5m) : z0h (l.map zd2) = true := z3j (fun s => by simp [zd2, AV.pure, z0h, z07, z0z]) l
theorem zqq (l : List (List Int)) : z0h (l.map y1t) = true := z3j (fun s => by simp only [y1t, AV.pure, z3c]) l
attribute [push_cast] z3e z68 z07 z0z z1a z1b zqq
end Go.Proofs.Yticodgjinajkpaa
set_option maxRecDepth 100000
namespace Go.Proofs.Yticodgjinajkpaa
open Abs
abbrev s_ (n : Nat) : AArg := .slot n
abbrev k_ (x : AV) : AArg := .const x
abbrev h_ (a : List AArg) (k : AK) : AOp := ⟨none, a, none, k⟩
abbrev m_ (d : Nat) (a : List AArg) (k : AK) : AOp := ⟨some d, a, none, k⟩
abbrev g_ (d g : Nat) (w : Bool) (a : List AArg) (k : AK) : AOp := ⟨some d, a, some (g, w), k⟩
def z3v : AC := (.seq (.reg [o1 1 0 .box, c1 2 (.bool false) .mv]) (.seq (.seq (.reg [o1 12 1 (.load true 6), k1 13 10 12, o1 14 13 (.un .not)]) (.cond (.slot 14) (.seq (.reg [k0 15 23, o1 2 15 .mv]) .ret) .skip)) (.seq (.reg [o1 17 1 (.load true 6), k1 18 24 17, o1 16 18 .mv, o1 19 16 (.extract 0), o1 20 16 (.extract 1), o0 3 (.alloc (.agg [(.int .i64 0), (.int .i64 0), (.int .i64 0), (.int .i64 0), .nilS, .nilS]) 6), n2 3 19 (.store 6), o1 4 20 .mv]) (.seq (.seq (.reg [o1 21 4 .mv, c2 22 21 (.int .i64 0) (.bin .neq)]) (.cond (.slot 22) (.seq (.reg [k0 23 23, o1 2 23 .mv]) .ret) .skip)) (.seq (.reg [o1 25 3 (.load true 6), k1 26 24 25, o1 24 26 .mv, o1 27 24 (.extract 0), o1 28 24 (.extract 1), o0 5 (.alloc (.agg [(.int .i64 0), (.int .i64 0), (.int .i64 0), (.int .i64 0), .nilS, .nilS]) 6), n2 5 27 (.store 6), o1 6 28 .mv]) (.seq (.reg [o1 30 3 (.load true 6), k1 31 25 30, o1 29 31 .mv, o1 32 29 (.extract 0), o1 33 29 (.extract 1), o1 7 32 .mv, o1 8 33 .mv]) (.seq (.reg [o1 35 3 (.load true 6), k1 36 26 35, o1 34 36 .mv, o1 37 34 (.extract 0), o1 38 34 (.extract 1), o1 9 37 .mv, o1 10 38 .mv]) (.seq (.reg [o1 39 7 .mv, o1 40 39 (.len false), o1 41 3 (.faddr false 2 1), o1 42 41 (.load false 1), o2 43 40 42 (.bin .eql), o1 44 43 .mv, g1 45 44 9 .mv, g1 46 44 45 (.len false), g1 47 44 3 (.faddr false 2 1), g1 48 44 47 (.load false 1), g2 49 44 46 48 (.bin .eql), m_ 50 [s_ 44, s_ 49, k_ (.bool false)] .pick, o1 51 50 .mv, g_ 52 51 false [s_ 3] (.faddr false 2 1), g_ 53 51 false [s_ 52] (.load false 1), g_ 54 51 false [s_ 53, k_ (.int .i64 1)] (.bin .eql), g_ 55 51 false [s_ 54] .mv, g1 56 55 3 (.faddr false 4 1), g1 57 55 56 (.load false 1), g1 58 55 57 (.len false), g1 59 55 3 (.faddr false 5 1), g1 60 55 59 (.load false 1), g1 61 55 60 (.len false), g2 62 55 58 61 (.bin .add), g_ 63 55 true [s_ 62, k_ (.int .i64 0)] (.bin .eql), g_ 64 51 false [s_ 55, s_ 63, k_ (.bool false)] .pick, m_ 65 [s_ 51, k_ (.bool true), s_ 64] .pick, o1 11 65 .mv]) (.seq (.reg [o1 66 6 .mv, c2 67 66 (.int .i64 0) (.bin .eql), o1 68 67 .mv, g1 69 68 8 .mv, g_ 70 68 true [s_ 69, k_ (.int .i64 0)] (.bin .eql), m_ 71 [s_ 68, s_ 70, k_ (.bool false)] .pick, o1 72 71 .mv, g1 73 72 10 .mv, g_ 74 72 true [s_ 73, k_ (.int .i64 0)] (.bin .eql), m_ 75 [s_ 72, s_ 74, k_ (.bool false)] .pick, o1 76 75 .mv, g1 77 76 5 (.load true 6), g1 78 76 3 (.load true 6), g_ 79 76 true [k_ (.fn 17 []), s_ 77, s_ 78] .call, m_ 80 [s_ 76, s_ 79, k_ (.bool false)] .pick, o1 81 80 .mv, g1 82 81 11 .mv, m_ 83 [s_ 81, s_ 82, k_ (.bool false)] .pick, o1 84 83 .mv, g1 85 84 3 (.faddr false 2 1), g1 86 84 85 (.load false 1), g1 87 84 1 (.faddr false 2 1), g1 88 84 87 (.load false 1), g2 89 84 86 88 (.bin .leq), m_ 90 [s_ 84, s_ 89, k_ (.bool false)] .pick, o1 91 90 .mv, g_ 92 91 true [k_ (.fn 23 [])] .call, m_ 93 [s_ 91, s_ 92, k_ (.bool false)] .pick, o1 2 93 .mv]) .ret)))))))))
theorem z4o : z0k Try.prog 8 1 = some ⟨94, 1, [(.slot 2)], z3v⟩ := by kernel_rfl
def z69 : AC := (.seq (.reg [c1 6 (.bool false) .mv]) (.seq (.reg [o1 17 0 .mv, c2 18 17 (.int .u8 60) (.bin .rem), o1 19 18 (.conv .i64), c2 20 19 (.int .i64 2) (.bin .add), o1 7 20 .mv]) (.seq (.reg [o1 21 1 .mv, o1 22 21 (.conv .i64), o1 23 7 .mv, c2 24 23 (.int .i64 1) (.bin .sub), o2 25 22 24 (.bin .rem), o1 8 25 .mv]) (.seq (.reg [o1 26 7 .mv, o1 27 7 .mv, c2 28 27 (.int .i64 1) (.bin .sub), o1 29 28 (.build [(.int .i64 0), .nilS, .nilS] [(0, 1), (1, 1), (2, 1)] [0]), o1 30 29 (.bslice 3 1 (.agg [(.int .i64 0), .nilS, .nilS]) [0]), m_ 31 [k_ (.int .i64 2), k_ (.int .i64 1), s_ 26, s_ 30] (.build [(.int .i64 0), (.int .i64 0), (.int .i64 0), (.int .i64 0), .nilS, .nilS] [(0, 1), (1, 1), (2, 1), (3, 1), (4, 1), (5, 1)] [0, 1, 2, 5]), o0 9 (.alloc (.agg [(.int .i64 0), (.int .i64 0), (.int .i64 0), (.int .i64 0), .nilS, .nilS]) 6), n2 9 31 (.store 6)]) (.seq (.seq (.reg [c1 10 (.int .i64 0) .mv]) (.block 0 (.loop (.seq (.seq (.reg [o1 32 10 .mv, c2 33 32 (.int .i64 1) (.bin .add), o1 34 7 .mv, o2 35 33 34 (.bin .lss)]) (.cond (.slot 35) .skip (.exit 0))) (.seq (.block 1 (.seq (.reg [o1 38 2 .mv, o1 39 38 .mv, g_ 40 39 false [s_ 10] .mv, g_ 41 39 false [s_ 8] .mv, g_ 42 39 false [s_ 40, s_ 41] (.bin .neq), m_ 43 [s_ 39, k_ (.bool true), s_ 42] .pick]) (.cond (.slot 43) (.reg [o1 44 9 (.faddr false 4 1), o1 45 44 (.load false 1), o1 46 10 .mv, o1 47 10 .mv, c2 48 47 (.int .i64 1) (.bin .add), o1 49 10 .mv, o1 50 10 .mv, o2 51 49 50 (.build [(.int .i64 0), (.int .i64 0)] [(0, 1), (1, 1)] [0, 1]), o1 52 51 (.bslice 2 1 (.agg [(.int .i64 0), (.int .i64 0)]) [0]), o1 53 52 (.bslice 1 1 .nilS [0]), m_ 54 [s_ 46, s_ 48, s_ 53, k_ (.int .i64 1)] (.build [(.int .i64 0), (.int .i64 0), .nilS, (.int .i64 0), .nilS] [(0, 1), (1, 1), (2, 1), (3, 1), (4, 1)] [0, 1, 2, 3]), o1 55 54 (.bslice 5 1 (.agg [(.int .i64 0), (.int .i64 0), .nilS, (.int .i64 0), .nilS]) [0]), o2 56 45 55 (.app 5 72 (.agg [(.int .i64 0), (.int .i64 0), .nilS, (.int .i64 0), .nilS])), o1 57 9 (.faddr false 4 1), n2 57 56 (.store 1)]) .skip))) (.reg [o1 36 10 .mv, c2 37 36 (.int .i64 1) (.bin .add), o1 10 37 .mv])))))) (.seq (.reg [o1 59 9 (.load true 6), k1 60 25 59, o1 58 60 .mv, o1 61 58 (.extract 0), o1 62 58 (.extract 1), o1 11 61 .mv, o1 12 62 .mv]) (.seq (.reg [o1 64 9 (.load true 6), k1 65 26 64, o1 63 65 .mv, o1 66 63 (.extract 0), o1 67 63 (.extract 1), o1 13 66 .mv, o1 14 67 .mv]) (.seq (.reg [o1 69 9 (.load true 6), k1 70 24 69, o1 68 70 .mv, o1 71 68 (.extract 0), o1 72 68 (.extract 1), o0 15 (.alloc (.agg [(.int .i64 0), (.int .i64 0), (.int .i64 0), (.int .i64 0), .nilS, .nilS]) 6), n2 15 71 (.store 6), o1 16 72 .mv]) (.seq (.seq (.reg [o1 73 12 .mv, c2 74 73 (.int .i64 0) (.bin .neq), o1 75 74 .mv, g_ 76 75 false [s_ 14] .mv, g_ 77 75 false [s_ 76, k_ (.int .i64 0)] (.bin .neq), m_ 78 [s_ 75, k_ (.bool true), s_ 77] .pick, o1 79 78 .mv, g_ 80 79 false [s_ 16] .mv, g_ 81 79 false [s_ 80, k_ (.int .i64 0)] (.bin .neq), m_ 82 [s_ 79, k_ (.bool true), s_ 81] .pick]) (.cond (.slot 82) (.seq (.reg [c1 6 (.bool false) .mv]) .ret) .skip)) (.seq (.seq (.reg [o1 83 2 .mv]) (.cond (.slot 83) (.seq (.reg [o1 84 11 .mv, o1 85 84 (.len false), o1 86 7 .mv, o2 87 85 86 (.bin .eql), o1 88 87 .mv, g1 89 88 13 .mv, g1 90 88 89 (.len false), g1 91 88 7 .mv, g2 92 88 90 91 (.bin .eql), m_ 93 [s_ 88, s_ 92, k_ (.bool false)] .pick, o1 94 93 .mv, g1 95 94 15 (.faddr false 2 1), g1 96 94 95 (.load false 1), g1 97 94 7 .mv, g2 98 94 96 97 (.bin .eql), m_ 99 [s_ 94, s_ 98, k_ (.bool false)] .pick, o1 100 99 .mv, g_ 101 100 true [k_ (.fn 23 [])] .call, m_ 102 [s_ 100, s_ 101, k_ (.bool false)] .pick, o1 6 102 .mv]) .ret) .skip)) (.seq (.reg [o1 103 11 .mv, o1 104 103 (.len false), o1 105 8 .mv, c2 106 105 (.int .i64 1) (.bin .add), o2 107 104 106 (.bin .eql), o1 108 107 .mv, g1 109 108 13 .mv, g1 110 108 109 (.len false), g1 111 108 7 .mv, g1 112 108 8 .mv, g2 113 108 111 112 (.bin .sub), g_ 114 108 true [s_ 113, k_ (.int .i64 1)] (.bin .sub), g2 115 108 110 114 (.bin .eql), m_ 116 [s_ 108, s_ 115, k_ (.bool false)] .pick, o1 117 116 .mv, g1 118 117 15 (.load true 6), g_ 119 117 true [k_ (.int .i64 2), k_ (.int .i64 1), k_ (.int .i64 1)] (.build [(.int .i64 0), (.int .i64 0), (.int .i64 0), (.int .i64 0), .nilS, .nilS] [(0, 1), (1, 1), (2, 1), (3, 1), (4, 1), (5, 1)] [0, 1, 2]), g_ 120 117 true [k_ (.fn 17 []), s_ 118, s_ 119] .call, m_ 121 [s_ 117, s_ 120, k_ (.bool false)] .pick, o1 122 121 .mv, g_ 123 122 true [k_ (.fn 23 [])] .call, m_ 124 [s_ 122, s_ 123, k_ (.bool false)] .pick, o1 6 124 .mv]) .ret)))))))))))
theorem zai : z0k Try.prog 9 3 = some ⟨125, 3, [(.slot 6)], z69⟩ := by kernel_rfl
def z9k : AC := (.seq (.reg [o1 1 0 .box, c1 2 (.bool false) .mv]) (.seq (.reg [c1 3 (.int .i64 0) .mv]) (.seq (.seq (.reg [o1 6 1 (.faddr false 4 1), o1 7 6 (.load false 1), o1 8 7 (.len false), c2 9 8 (.int .i64 80) (.bin .gtr), o1 10 9 .mv, g_ 11 10 false [s_ 1] (.faddr false 5 1), g_ 12 10 false [s_ 11] (.load false 1), g_ 13 10 false [s_ 12] (.len false), g_ 14 10 false [s_ 13, k_ (.int .i64 80)] (.bin .gtr), m_ 15 [s_ 10, k_ (.bool true), s_ 14] .pick]) (.cond (.slot 15) (.seq (.reg [c1 2 (.bool false) .mv]) .ret) .skip)) (.seq (.seq (.reg [c1 4 (.int .i64 0) .mv]) (.block 0 (.loop (.seq (.seq (.reg [o1 16 4 .mv, o1 17 1 (.faddr false 4 1), o1 18 17 (.load false 1), o1 19 18 (.len false), o2 20 16 19 (.bin .lss)]) (.cond (.slot 20) .skip (.exit 0))) (.seq (.block 1 (.dreg [o1 23 3 .mv, o1 24 1 (.faddr false 4 1), o1 25 24 (.load false 1), o1 26 4 .mv, o2 27 25 26 (.iaddr 5), o1 28 27 (.faddr false 2 1), o1 29 28 (.load false 1), o1 30 1 (.faddr false 4 1), o1 31 30 (.load false 1), o1 32 4 .mv, o2 33 31 32 (.iaddr 5), o1 34 33 (.faddr false 4 1), o1 35 34 (.load false 1), k2 36 27 29 35, o2 37 23 36 (.bin .add), o1 3 37 .mv])) (.reg [o1 21 4 .mv, c2 22 21 (.int .i64 1) (.bin .add), o1 4 22 .mv])))))) (.seq (.seq (.reg [c1 5 (.int .i64 0) .mv]) (.block 2 (.loop (.seq (.seq (.reg [o1 38 5 .mv, o1 39 1 (.faddr false 5 1), o1 40 39 (.load false 1), o1 41 40 (.len false), o2 42 38 41 (.bin .lss)]) (.cond (.slot 42) .skip (.exit 2))) (.seq (.block 3 (.dreg [o1 45 3 .mv, o1 46 1 (.faddr false 5 1), o1 47 46 (.load false 1), o1 48 5 .mv, o2 49 47 48 (.iaddr 3), o1 50 49 (.faddr false 1 1), o1 51 50 (.load false 1), o1 52 1 (.faddr false 5 1), o1 53 52 (.load false 1), o1 54 5 .mv, o2 55 53 54 (.iaddr 3), o1 56 55 (.faddr false 2 1), o1 57 56 (.load false 1), k2 58 27 51 57, o2 59 45 58 (.bin .add), o1 3 59 .mv])) (.reg [o1 43 5 .mv, c2 44 43 (.int .i64 1) (.bin .add), o1 5 44 .mv])))))) (.seq (.reg [o1 60 3 .mv, c2 61 60 (.int .i64 1500) (.bin .leq), o1 2 61 .mv]) .ret))))))
theorem zh7 : z0k Try.prog 10 1 = some ⟨62, 1, [(.slot 2)], z9k⟩ := by kernel_rfl
def zb1 : AC := (.seq (.reg [o1 1 0 .box, c1 2 (.int .i64 0) .mv, c1 3 (.int .i64 0) .mv]) (.seq (.seq (.reg [o1 8 1 (.load true 6), k1 9 29 8, o1 10 9 (.un .not)]) (.cond (.slot 10) (.seq (.reg [c1 2 (.int .i64 1) .mv, c1 3 (.int .i64 0) .mv]) .ret) .skip)) (.seq (.seq (.reg [o1 11 1 (.faddr false 4 1), o1 12 11 (.load false 1), o1 13 12 (.len false), c1 14 (.int .i64 0) .mv]) (.block 0 (.loop (.seq (.reg [o2 15 14 13 (.bin .lss)]) (.seq (.cond (.slot 15) .skip (.exit 0)) (.seq (.block 1 (.seq (.reg [o1 16 14 .mv, o2 17 12 14 (.iaddr 5), o1 18 17 (.load true 5), o0 5 (.alloc (.agg [(.int .i64 0), (.int .i64 0), .nilS, (.int .i64 0), .nilS]) 5), o1 4 16 .mv, n2 5 18 (.store 5)]) (.seq (.reg [o1 19 1 (.load true 6), o1 20 5 (.load true 5), k2 21 30 19 20, o1 22 21 (.un .not)]) (.cond (.slot 22) (.seq (.reg [o1 23 4 .mv, c1 2 (.int .i64 2) .mv, o1 3 23 .mv]) .ret) .skip)))) (.reg [c2 24 14 (.int .i64 1) (.bin .add), o1 14 24 .mv]))))))) (.seq (.seq (.reg [o1 25 1 (.faddr false 5 1), o1 26 25 (.load false 1), o1 27 26 (.len false), c1 28 (.int .i64 0) .mv]) (.block 2 (.loop (.seq (.reg [o2 29 28 27 (.bin .lss)]) (.seq (.cond (.slot 29) .skip (.exit 2)) (.seq (.block 3 (.seq (.reg [o1 30 28 .mv, o2 31 26 28 (.iaddr 3), o1 32 31 (.load true 3), o0 7 (.alloc (.agg [(.int .i64 0), .nilS, .nilS]) 3), o1 6 30 .mv, n2 7 32 (.store 3)]) (.seq (.reg [o1 33 1 (.load true 6), o1 34 7 (.faddr false 0 1), o1 35 34 (.load false 1), k2 36 31 33 35, o1 37 36 (.un .not), o1 38 37 .mv, g_ 39 38 false [s_ 1] (.faddr false 0 1), g_ 40 38 false [s_ 39] (.load false 1), g_ 41 38 false [s_ 7] (.faddr false 1 1), g_ 42 38 false [s_ 41] (.load false 1), g_ 43 38 false [k_ (.fn 32 []), s_ 40, s_ 42] .call, g_ 44 38 false [s_ 43] (.un .not), m_ 45 [s_ 38, k_ (.bool true), s_ 44] .pick, o1 46 45 .mv, g_ 47 46 false [s_ 1] (.load true 6), g_ 48 46 false [s_ 7] (.faddr false 2 1), g_ 49 46 false [s_ 48] (.load false 1), g_ 50 46 false [s_ 7] (.faddr false 1 1), g_ 51 46 false [s_ 50] (.load false 1), g_ 52 46 false [k_ (.fn 33 []), s_ 47, s_ 49, s_ 51] .call, g_ 53 46 false [s_ 52] (.un .not), m_ 54 [s_ 46, k_ (.bool true), s_ 53] .pick]) (.cond (.slot 54) (.seq (.reg [o1 55 6 .mv, c1 2 (.int .i64 3) .mv, o1 3 55 .mv]) .ret) .skip)))) (.reg [c2 56 28 (.int .i64 1) (.bin .add), o1 28 56 .mv]))))))) (.seq (.seq (.reg [o1 57 1 (.load true 6), k1 58 34 57]) (.cond (.slot 58) (.seq (.reg [c1 2 (.int .i64 4) .mv, c1 3 (.int .i64 0) .mv]) .ret) .skip)) (.seq (.reg [c1 2 (.int .i64 0) .mv, c1 3 (.int .i64 0) .mv]) .ret))))))
theorem zjh : z0k Try.prog 12 1 = some ⟨59, 1, [(.slot 2), (.slot 3)], zb1⟩ := by kernel_rfl
def zb2 : AC := (.seq (.reg [o1 1 0 .box, c1 2 (.int .i64 0) .mv]) (.seq (.seq (.reg [o1 6 1 (.load true 6), k1 7 12 6, o1 5 7 .mv, o1 8 5 (.extract 0), o1 9 5 (.extract 1), o1 3 8 .mv, o1 4 9 .mv]) (.seq (.reg [o1 10 3 .mv, c2 11 10 (.int .i64 0) (.bin .neq)]) (.cond (.slot 11) (.seq (.reg [c1 2 (.int .i64 2) .mv]) .ret) .skip))) (.seq (.reg [c1 2 (.int .i64 0) .mv]) .ret)))
theorem zji : z0k Try.prog 14 1 = some ⟨12, 1, [(.slot 2)], zb2⟩ := by kernel_rfl
def zb3 : AC := (.seq (.reg [o0 4 (.alloc (.agg [(.int .i64 0), (.int .i64 0), (.int .i64 0), (.int .i64 0), .nilS, .nilS]) 6)]) (.seq (.reg [o1 5 0 .mv, o1 6 1 .mv, m_ 7 [s_ 5, s_ 6, k_ (.int .i64 1)] (.build [(.int .i64 0), (.int .i64 0), (.int .i64 0), (.int .i64 0), .nilS, .nilS] [(0, 1), (1, 1), (2, 1), (3, 1), (4, 1), (5, 1)] [0, 1, 2]), n2 4 7 (.store 6)]) .ret))
theorem zjj : z0k Try.prog 15 2 = some ⟨8, 2, [(.cell 4 true 6)], zb3⟩ := by kernel_rfl
def zb4 : AC := (.seq (.reg [o1 2 0 .box, o1 3 1 .box, c1 4 (.bool false) .mv]) (.seq (.seq (.reg [o1 9 2 (.faddr false 0 1), o1 10 9 (.load false 1), o1 11 3 (.faddr false 0 1), o1 12 11 (.load false 1), o2 13 10 12 (.bin .neq), o1 14 13 .mv, g_ 15 14 false [s_ 2] (.faddr false 1 1), g_ 16 14 false [s_ 15] (.load false 1), g_ 17 14 false [s_ 3] (.faddr false 1 1), g_ 18 14 false [s_ 17] (.load false 1), g_ 19 14 false [s_ 16, s_ 18] (.bin .neq), m_ 20 [s_ 14, k_ (.bool true), s_ 19] .pick, o1 21 20 .mv, g_ 22 21 false [s_ 2] (.faddr false 2 1), g_ 23 21 false [s_ 22] (.load false 1), g_ 24 21 false [s_ 3] (.faddr false 2 1), g_ 25 21 false [s_ 24] (.load false 1), g_ 26 21 false [s_ 23, s_ 25] (.bin .neq), m_ 27 [s_ 21, k_ (.bool true), s_ 26] .pick, o1 28 27 .mv, g_ 29 28 false [s_ 2] (.faddr false 3 1), g_ 30 28 false [s_ 29] (.load false 1), g_ 31 28 false [s_ 3] (.faddr false 3 1), g_ 32 28 false [s_ 31] (.load false 1), g_ 33 28 false [s_ 30, s_ 32] (.bin .neq), m_ 34 [s_ 28, k_ (.bool true), s_ 33] .pick, o1 35 34 .mv, g_ 36 35 false [s_ 2] (.faddr false 4 1), g_ 37 35 false [s_ 36] (.load false 1), g_ 38 35 false [s_ 37] (.len false), g_ 39 35 false [s_ 3] (.faddr false 4 1), g_ 40 35 false [s_ 39] (.load false 1), g_ 41 35 false [s_ 40] (.len false), g_ 42 35 false [s_ 38, s_ 41] (.bin .neq), m_ 43 [s_ 35, k_ (.bool true), s_ 42] .pick, o1 44 43 .mv, g_ 45 44 false [s_ 2] (.faddr false 5 1), g_ 46 44 false [s_ 45] (.load false 1), g_ 47 44 false [s_ 46] (.len false), g_ 48 44 false [s_ 3] (.faddr false 5 1), g_ 49 44 false [s_ 48] (.load false 1), g_ 50 44 false [s_ 49] (.len false), g_ 51 44 false [s_ 47, s_ 50] (.bin .neq), m_ 52 [s_ 44, k_ (.bool true), s_ 51] .pick]) (.cond (.slot 52) (.seq (.reg [c1 4 (.bool false) .mv]) .ret) .skip)) (.seq (.seq (.reg [c1 5 (.int .i64 0) .mv]) (.block 0 (.loop (.seq (.seq (.reg [o1 53 5 .mv, o1 54 2 (.faddr false 4 1), o1 55 54 (.load false 1), o1 56 55 (.len false), o2 57 53 56 (.bin .lss)]) (.cond (.slot 57) .skip (.exit 0))) (.seq (.block 1 (.seq (.dtl [o1 60 2 (.faddr false 4 1), o1 61 60 (.load false 1), o1 62 5 .mv, o2 63 61 62 (.iaddr 5), o1 64 63 (.load true 5), o1 65 3 (.faddr false 4 1), o1 66 65 (.load false 1), o1 67 5 .mv, o2 68 66 67 (.iaddr 5), o1 69 68 (.load true 5)] [k2 70 39 64 69, o1 71 70 (.un .not)]) (.cond (.slot 71) (.seq (.reg [c1 4 (.bool false) .mv]) .ret) .skip))) (.reg [o1 58 5 .mv, c2 59 58 (.int .i64 1) (.bin .add), o1 5 59 .mv])))))) (.seq (.seq (.reg [c1 6 (.int .i64 0) .mv]) (.block 2 (.loop (.seq (.seq (.reg [o1 72 6 .mv, o1 73 2 (.faddr false 5 1), o1 74 73 (.load false 1), o1 75 74 (.len false), o2 76 72 75 (.bin .lss)]) (.cond (.slot 76) .skip (.exit 2))) (.seq (.block 3 (.seq (.gry [true, true, true, true, true, true, true, true, true, true, false, false, false, false] [m_ 79 [s_ 2] (.faddr false 5 1), m_ 80 [s_ 79] (.load false 1), m_ 81 [s_ 6] .mv, m_ 82 [s_ 80, s_ 81] (.iaddr 3), m_ 83 [s_ 82] (.load true 3), m_ 84 [s_ 3] (.faddr false 5 1), m_ 85 [s_ 84] (.load false 1), m_ 86 [s_ 6] .mv, m_ 87 [s_ 85, s_ 86] (.iaddr 3), m_ 88 [s_ 87] (.load true 3), m_ 7 [] (.alloc (.agg [(.int .i64 0), .nilS, .nilS]) 3), m_ 8 [] (.alloc (.agg [(.int .i64 0), .nilS, .nilS]) 3), h_ [s_ 7, s_ 83] (.store 3), h_ [s_ 8, s_ 88] (.store 3)]) (.seq (.reg [o1 89 7 (.faddr false 0 1), o1 90 89 (.load false 1), o1 91 8 (.faddr false 0 1), o1 92 91 (.load false 1), o2 93 90 92 (.bin .neq), o1 94 93 .mv, g_ 95 94 false [s_ 7] (.faddr false 1 1), g_ 96 94 false [s_ 95] (.load false 1), g_ 97 94 false [s_ 8] (.faddr false 1 1), g_ 98 94 false [s_ 97] (.load false 1), g_ 99 94 false [k_ (.fn 40 []), s_ 96, s_ 98] .call, g_ 100 94 false [s_ 99] (.un .not), m_ 101 [s_ 94, k_ (.bool true), s_ 100] .pick, o1 102 101 .mv, g_ 103 102 false [s_ 7] (.faddr false 2 1), g_ 104 102 false [s_ 103] (.load false 1), g_ 105 102 false [s_ 8] (.faddr false 2 1), g_ 106 102 false [s_ 105] (.load false 1), g_ 107 102 false [k_ (.fn 41 []), s_ 104, s_ 106] .call, g_ 108 102 false [s_ 107] (.un .not), m_ 109 [s_ 102, k_ (.bool true), s_ 108] .pick]) (.cond (.slot 109) (.seq (.reg [c1 4 (.bool false) .mv]) .ret) .skip)))) (.reg [o1 77 6 .mv, c2 78 77 (.int .i64 1) (.bin .add), o1 6 78 .mv])))))) (.seq (.reg [c1 4 (.bool true) .mv]) .ret)))))
theorem zjk : z0k Try.prog 17 2 = some ⟨110, 2, [(.slot 4)], zb4⟩ := by kernel_rfl
def z9l : AC := (.seq (.reg [c1 0 (.bool false) .mv]) (.seq (.reg [m_ 10 [k_ (.int .i64 97), k_ (.int .i64 97)] (.build [(.int .i64 0), (.int .i64 0)] [(0, 1), (1, 1)] [0, 1]), o1 11 10 (.bslice 2 1 (.agg [(.int .i64 0), (.int .i64 0)]) [0]), o1 12 11 (.bslice 1 1 .nilS [0]), m_ 13 [k_ (.int .i64 98), k_ (.int .i64 98)] (.build [(.int .i64 0), (.int .i64 0)] [(0, 1), (1, 1)] [0, 1]), o1 14 13 (.bslice 2 1 (.agg [(.int .i64 0), (.int .i64 0)]) [0]), o1 15 14 (.bslice 1 1 .nilS [0]), o1 1 12 .mv, o1 2 15 .mv]) (.seq (.reg [c1 16 (.int .i64 1) (.build [(.int .i64 0), .nilS, .nilS] [(0, 1), (1, 1), (2, 1)] [0]), o1 17 16 (.bslice 3 1 (.agg [(.int .i64 0), .nilS, .nilS]) [0]), o1 18 1 .mv, m_ 19 [k_ (.int .i64 1), s_ 18, k_ (.int .i64 1)] (.build [(.int .i64 0), (.int .i64 0), .nilS, (.int .i64 0), .nilS] [(0, 1), (1, 1), (2, 1), (3, 1), (4, 1)] [1, 2, 3]), o1 20 2 .mv, m_ 21 [k_ (.int .i64 2), s_ 20, k_ (.int .i64 1)] (.build [(.int .i64 0), (.int .i64 0), .nilS, (.int .i64 0), .nilS] [(0, 1), (1, 1), (2, 1), (3, 1), (4, 1)] [1, 2, 3]), o2 22 19 21 (.bslice 5 2 (.agg [(.int .i64 0), (.int .i64 0), .nilS, (.int .i64 0), .nilS]) [0, 1]), m_ 23 [k_ (.int .i64 1), k_ (.int .i64 1), k_ (.int .i64 3), s_ 17, s_ 22] (.build [(.int .i64 0), (.int .i64 0), (.int .i64 0), (.int .i64 0), .nilS, .nilS] [(0, 1), (1, 1), (2, 1), (3, 1), (4, 1), (5, 1)] [0, 1, 2, 5, 4]), o0 3 (.alloc (.agg [(.int .i64 0), (.int .i64 0), (.int .i64 0), (.int .i64 0), .nilS, .nilS]) 6), n2 3 23 (.store 6)]) (.seq (.reg [o1 25 3 (.load true 6), k1 26 25 25, o1 24 26 .mv, o1 27 24 (.extract 0), o1 28 24 (.extract 1), o1 4 27 .mv, o1 5 28 .mv]) (.seq (.reg [o1 30 3 (.load true 6), k1 31 26 30, o1 29 31 .mv, o1 32 29 (.extract 0), o1 33 29 (.extract 1), o1 6 32 .mv, o1 7 33 .mv]) (.seq (.reg [o1 35 3 (.load true 6), k1 36 24 35, o1 34 36 .mv, o1 37 34 (.extract 0), o1 38 34 (.extract 1), o0 8 (.alloc (.agg [(.int .i64 0), (.int .i64 0), (.int .i64 0), (.int .i64 0), .nilS, .nilS]) 6), n2 8 37 (.store 6), o1 9 38 .mv]) (.seq (.reg [o1 39 5 .mv, c2 40 39 (.int .i64 0) (.bin .eql), o1 41 40 .mv, g1 42 41 7 .mv, g_ 43 41 true [s_ 42, k_ (.int .i64 0)] (.bin .eql), m_ 44 [s_ 41, s_ 43, k_ (.bool false)] .pick, o1 45 44 .mv, g1 46 45 9 .mv, g_ 47 45 true [s_ 46, k_ (.int .i64 0)] (.bin .eql), m_ 48 [s_ 45, s_ 47, k_ (.bool false)] .pick, o1 49 48 .mv, g1 50 49 4 .mv, g1 51 49 50 (.len false), g_ 52 49 true [s_ 51, k_ (.int .i64 3)] (.bin .eql), m_ 53 [s_ 49, s_ 52, k_ (.bool false)] .pick, o1 54 53 .mv, g1 55 54 6 .mv, g1 56 54 55 (.len false), g_ 57 54 true [s_ 56, k_ (.int .i64 2)] (.bin .eql), m_ 58 [s_ 54, s_ 57, k_ (.bool false)] .pick, o1 59 58 .mv, g1 60 59 8 (.faddr false 2 1), g1 61 59 60 (.load false 1), g_ 62 59 true [s_ 61, k_ (.int .i64 2)] (.bin .eql), m_ 63 [s_ 59, s_ 62, k_ (.bool false)] .pick, o1 64 63 .mv, g1 65 64 8 (.faddr false 4 1), g1 66 64 65 (.load false 1), g1 67 64 66 (.len false), g_ 68 64 true [s_ 67, k_ (.int .i64 1)] (.bin .eql), m_ 69 [s_ 64, s_ 68, k_ (.bool false)] .pick, o1 0 69 .mv]) .ret)))))))
theorem zh8 : z0k Try.prog 23 0 = some ⟨70, 0, [(.slot 0)], z9l⟩ := by kernel_rfl
def z90 : AC := (.seq (.reg [o1 1 0 .box, o0 2 (.alloc (.agg [(.int .i64 0), (.int .i64 0), (.int .i64 0), (.int .i64 0), .nilS, .nilS]) 6), c1 3 (.int .i64 0) .mv]) (.seq (.seq (.reg [o1 14 1 (.load true 6), k1 15 14 14, o1 4 15 .mv]) (.seq (.reg [o1 16 4 .mv, c2 17 16 (.int .i64 0) (.bin .neq)]) (.cond (.slot 17) (.seq (.reg [o0 18 (.build [(.int .i64 0), (.int .i64 0), (.int .i64 0), (.int .i64 0), .nilS, .nilS] [(0, 1), (1, 1), (2, 1), (3, 1), (4, 1), (5, 1)] []), o1 19 4 .mv, n2 2 18 (.store 6), o1 3 19 .mv]) .ret) .skip))) (.seq (.dreg [o1 20 1 (.load true 6), k1 21 44 20, o1 22 1 (.load true 6), k1 23 45 22, o1 5 21 .mv, o1 6 23 .mv]) (.seq (.seq (.reg [o1 24 6 .mv, o1 25 1 (.faddr false 3 1), o1 26 25 (.load false 1), o2 27 24 26 (.iaddr 1), o1 28 27 (.load false 1), o1 29 28 (.un .not)]) (.cond (.slot 29) (.seq (.reg [o1 30 1 (.faddr false 0 1), o1 31 30 (.load false 1), o1 32 1 (.faddr false 1 1), o1 33 32 (.load false 1), k2 34 15 31 33, n2 2 34 (.store 6), c1 3 (.int .i64 0) .mv]) .ret) .skip)) (.seq (.reg [o1 35 1 (.faddr false 2 1), o1 36 35 (.load false 1), o2 37 36 36 (.mkSlice 1 8 (.int .i64 0)), o1 7 37 .mv]) (.seq (.reg [o1 38 1 (.faddr false 0 1), o1 39 38 (.load false 1), o1 40 1 (.faddr false 1 1), o1 41 40 (.load false 1), o2 42 39 41 (.build [(.int .i64 0), (.int .i64 0), (.int .i64 0), (.int .i64 0), .nilS, .nilS] [(0, 1), (1, 1), (2, 1), (3, 1), (4, 1), (5, 1)] [0, 1]), o0 8 (.alloc (.agg [(.int .i64 0), (.int .i64 0), (.int .i64 0), (.int .i64 0), .nilS, .nilS]) 6), n2 8 42 (.store 6)]) (.seq (.seq (.reg [o1 43 7 .mv, o1 44 43 (.len false), c1 45 (.int .i64 0) .mv]) (.block 0 (.loop (.seq (.reg [o2 46 45 44 (.bin .lss)]) (.seq (.cond (.slot 46) .skip (.exit 0)) (.seq (.block 1 (.seq (.reg [o1 47 45 .mv, o1 9 47 .mv]) (.seq (.reg [o1 48 7 .mv, o1 49 9 .mv, o2 50 48 49 (.iaddr 1), h_ [s_ 50, k_ (.int .i64 (-1))] (.store 1)]) (.seq (.reg [o1 51 5 .mv, o1 52 9 .mv, o2 53 51 52 (.iaddr 1), o1 54 53 (.load false 1), o1 55 54 .mv, g1 56 55 6 .mv, g1 57 55 9 .mv, g2 58 55 56 57 (.iaddr 1), g1 59 55 58 (.load false 1), m_ 60 [s_ 55, s_ 59, k_ (.bool false)] .pick]) (.cond (.slot 60) (.seq (.reg [o1 61 7 .mv, o1 62 9 .mv, o1 63 8 (.faddr false 2 1), o1 64 63 (.load false 1), o2 65 61 62 (.iaddr 1), n2 65 64 (.store 1)]) (.reg [o1 66 8 (.faddr false 2 1), o1 67 66 (.load false 1), c2 68 67 (.int .i64 1) (.bin .add), o1 69 8 (.faddr false 2 1), n2 69 68 (.store 1)])) .skip))))) (.reg [c2 70 45 (.int .i64 1) (.bin .add), o1 45 70 .mv]))))))) (.seq (.reg [o1 71 7 .mv, o1 72 1 (.faddr false 3 1), o1 73 72 (.load false 1), o2 74 71 73 (.iaddr 1), o1 75 74 (.load false 1), o1 76 8 (.faddr false 3 1), n2 76 75 (.store 1)]) (.seq (.seq (.reg [o1 77 1 (.faddr false 4 1), o1 78 77 (.load false 1), o1 79 78 (.len false), c1 80 (.int .i64 0) .mv]) (.block 2 (.loop (.seq (.reg [o2 81 80 79 (.bin .lss)]) (.seq (.cond (.slot 81) .skip (.exit 2)) (.seq (.block 3 (.seq (.reg [o2 82 78 80 (.iaddr 5), o1 83 82 (.load true 5), o0 11 (.alloc (.agg [(.int .i64 0), (.int .i64 0), .nilS, (.int .i64 0), .nilS]) 5), n2 11 83 (.store 5)]) (.seq (.gry [false, false, false, false, false, false, false, false, false, true, false, false, false, false] [m_ 84 [s_ 7] .mv, m_ 85 [s_ 11] (.faddr false 0 1), m_ 86 [s_ 85] (.load false 1), m_ 87 [s_ 84, s_ 86] (.iaddr 1), m_ 88 [s_ 87] (.load false 1), m_ 89 [s_ 7] .mv, m_ 90 [s_ 11] (.faddr false 1 1), m_ 91 [s_ 90] (.load false 1), m_ 92 [s_ 89, s_ 91] (.iaddr 1), m_ 93 [s_ 92] (.load false 1), m_ 94 [s_ 11] (.faddr false 0 1), h_ [s_ 94, s_ 88] (.store 1), m_ 95 [s_ 11] (.faddr false 1 1), h_ [s_ 95, s_ 93] (.store 1)]) (.seq (.reg [o1 96 11 (.faddr false 0 1), o1 97 96 (.load false 1), c2 98 97 (.int .i64 0) (.bin .geq), o1 99 98 .mv, g1 100 99 11 (.faddr false 1 1), g1 101 99 100 (.load false 1), g_ 102 99 true [s_ 101, k_ (.int .i64 0)] (.bin .geq), m_ 103 [s_ 99, s_ 102, k_ (.bool false)] .pick]) (.cond (.slot 103) (.seq (.reg [o1 105 11 (.faddr false 2 1), o1 106 105 (.load false 1), o1 107 11 (.faddr false 4 1), o1 108 107 (.load false 1), k2 109 46 106 108, o1 104 109 .mv, o1 110 104 (.extract 0), o1 111 104 (.extract 1), o1 112 11 (.faddr false 2 1), n2 112 110 (.store 1), o1 113 11 (.faddr false 4 1), n2 113 111 (.store 1)]) (.reg [o1 114 8 (.faddr false 4 1), o1 115 114 (.load false 1), o1 116 11 (.load true 5), o1 117 116 (.bslice 5 1 (.agg [(.int .i64 0), (.int .i64 0), .nilS, (.int .i64 0), .nilS]) [0]), o2 118 115 117 (.app 5 72 (.agg [(.int .i64 0), (.int .i64 0), .nilS, (.int .i64 0), .nilS])), o1 119 8 (.faddr false 4 1), n2 119 118 (.store 1)])) .skip))))) (.reg [c2 120 80 (.int .i64 1) (.bin .add), o1 80 120 .mv]))))))) (.seq (.seq (.reg [o1 121 1 (.faddr false 5 1), o1 122 121 (.load false 1), o1 123 122 (.len false), c1 124 (.int .i64 0) .mv]) (.block 4 (.loop (.seq (.reg [o2 125 124 123 (.bin .lss)]) (.seq (.cond (.slot 125) .skip (.exit 4)) (.seq (.block 5 (.seq (.reg [o2 126 122 124 (.iaddr 3), o1 127 126 (.load true 3), o0 13 (.alloc (.agg [(.int .i64 0), .nilS, .nilS]) 3), n2 13 127 (.store 3)]) (.seq (.reg [o1 128 7 .mv, o1 129 13 (.faddr false 0 1), o1 130 129 (.load false 1), o2 131 128 130 (.iaddr 1), o1 132 131 (.load false 1), o1 133 13 (.faddr false 0 1), n2 133 132 (.store 1)]) (.seq (.reg [o1 134 13 (.faddr false 0 1), o1 135 134 (.load false 1), c2 136 135 (.int .i64 0) (.bin .geq)]) (.cond (.slot 136) (.seq (.reg [o1 138 13 (.faddr false 1 1), o1 139 138 (.load false 1), o1 140 13 (.faddr false 2 1), o1 141 140 (.load false 1), k2 142 46 139 141, o1 137 142 .mv, o1 143 137 (.extract 0), o1 144 137 (.extract 1), o1 145 13 (.faddr false 1 1), n2 145 143 (.store 1), o1 146 13 (.faddr false 2 1), n2 146 144 (.store 1)]) (.reg [o1 147 8 (.faddr false 5 1), o1 148 147 (.load false 1), o1 149 13 (.load true 3), o1 150 149 (.bslice 3 1 (.agg [(.int .i64 0), .nilS, .nilS]) [0]), o2 151 148 150 (.app 3 56 (.agg [(.int .i64 0), .nilS, .nilS])), o1 152 8 (.faddr false 5 1), n2 152 151 (.store 1)])) .skip))))) (.reg [c2 153 124 (.int .i64 1) (.bin .add), o1 124 153 .mv]))))))) (.seq (.reg [o1 154 8 (.load true 6), n2 2 154 (.store 6), c1 3 (.int .i64 0) .mv]) .ret)))))))))))
theorem zd4 : z0k Try.prog 24 1 = some ⟨155, 1, [(.cell 2 true 6), (.slot 3)], z90⟩ := by kernel_rfl
def zb5 : AC := (.seq (.reg [o1 1 0 .box, c1 2 .nilS .mv, c1 3 (.int .i64 0) .mv]) (.seq (.seq (.reg [o1 5 1 (.load true 6), k1 6 14 5, o1 4 6 .mv]) (.seq (.reg [o1 7 4 .mv, c2 8 7 (.int .i64 0) (.bin .neq)]) (.cond (.slot 8) (.seq (.reg [o1 9 4 .mv, c1 2 .nilS .mv, o1 3 9 .mv]) .ret) .skip))) (.seq (.reg [o1 10 1 (.load true 6), k1 11 44 10, k1 12 47 11, o1 2 12 .mv, c1 3 (.int .i64 0) .mv]) .ret)))
theorem zjl : z0k Try.prog 25 1 = some ⟨13, 1, [(.slot 2), (.slot 3)], zb5⟩ := by kernel_rfl
def z9m : AC := (.seq (.reg [o1 1 0 .box, c1 2 .nilS .mv, c1 3 (.int .i64 0) .mv]) (.seq (.seq (.reg [o1 5 1 (.load true 6), k1 6 14 5, o1 4 6 .mv]) (.seq (.reg [o1 7 4 .mv, c2 8 7 (.int .i64 0) (.bin .neq)]) (.cond (.slot 8) (.seq (.reg [o1 9 4 .mv, c1 2 .nilS .mv, o1 3 9 .mv]) .ret) .skip))) (.seq (.reg [o1 10 1 (.load true 6), k1 11 45 10, k1 12 47 11, o1 2 12 .mv, c1 3 (.int .i64 0) .mv]) .ret)))
theorem zh9 : z0k Try.prog 26 1 = some ⟨13, 1, [(.slot 2), (.slot 3)], z9m⟩ := by kernel_rfl
def zb6 : AC := (.seq (.reg [c1 4 (.int .i64 0) .mv]) (.seq (.seq (.reg [o1 8 0 .mv, o1 9 8 (.len false), c2 10 9 (.int .i64 100) (.bin .gtr), o1 11 10 .mv, g_ 12 11 false [s_ 1] .mv, g_ 13 11 false [s_ 12] (.len false), g_ 14 11 false [s_ 13, k_ (.int .i64 200)] (.bin .gtr), m_ 15 [s_ 11, k_ (.bool true), s_ 14] .pick]) (.cond (.slot 15) (.seq (.reg [c1 4 (.int .i64 4000) .mv]) .ret) .skip)) (.seq (.reg [c1 5 (.int .i64 1) .mv]) (.seq (.seq (.reg [c1 6 (.int .i64 0) .mv]) (.block 0 (.loop (.seq (.seq (.reg [o1 16 6 .mv, o1 17 0 .mv, o1 18 17 (.len false), o2 19 16 18 (.bin .lss)]) (.cond (.slot 19) .skip (.exit 0))) (.seq (.block 1 (.reg [o1 22 5 .mv, o1 23 0 .mv, o1 24 6 .mv, o2 25 23 24 (.iaddr 1), o1 26 25 (.load false 1), o1 27 26 (.len false), c2 28 27 (.int .i64 4000) .min, o2 29 22 28 (.bin .add), o1 5 29 .mv])) (.reg [o1 20 6 .mv, c2 21 20 (.int .i64 1) (.bin .add), o1 6 21 .mv])))))) (.seq (.seq (.reg [c1 7 (.int .i64 0) .mv]) (.block 2 (.loop (.seq (.seq (.reg [o1 30 7 .mv, o1 31 1 .mv, o1 32 31 (.len false), o2 33 30 32 (.bin .lss)]) (.cond (.slot 33) .skip (.exit 2))) (.seq (.block 3 (.reg [o1 36 5 .mv, c2 37 36 (.int .i64 1) (.bin .add), o1 38 1 .mv, o1 39 7 .mv, o2 40 38 39 (.iaddr 6), o1 41 40 (.faddr false 5 1), o1 42 41 (.load false 1), o1 43 42 (.len false), c2 44 43 (.int .i64 4000) .min, o2 45 37 44 (.bin .add), o1 5 45 .mv])) (.reg [o1 34 7 .mv, c2 35 34 (.int .i64 1) (.bin .add), o1 7 35 .mv])))))) (.seq (.reg [o1 46 5 .mv, o1 4 46 .mv]) .ret))))))
theorem zjm : z0k Try.prog 27 2 = some ⟨47, 2, [(.slot 4)], zb6⟩ := by kernel_rfl
def zd5 : AC := (.seq (.reg [o1 1 0 .box, c1 2 (.bool false) .mv]) (.seq (.reg [o1 3 1 (.faddr false 0 1), o1 4 3 (.load false 1), k1 5 37 4, o1 6 5 (.len false), c2 7 6 (.int .i64 0) (.bin .gtr), o1 8 7 .mv, g1 9 8 1 (.faddr false 1 1), g1 10 8 9 (.load false 1), g_ 11 8 true [k_ (.fn 37 []), s_ 10] .call, g1 12 8 11 (.len false), g_ 13 8 true [s_ 12, k_ (.int .i64 0)] (.bin .gtr), m_ 14 [s_ 8, s_ 13, k_ (.bool false)] .pick, o1 15 14 .mv, g1 16 15 1 (.faddr false 2 1), g1 17 15 16 (.load false 1), g_ 18 15 true [s_ 17, k_ (.int .i64 1)] (.bin .geq), m_ 19 [s_ 15, s_ 18, k_ (.bool false)] .pick, o1 20 19 .mv, g1 21 20 1 (.faddr false 2 1), g1 22 20 21 (.load false 1), g_ 23 20 true [s_ 22, k_ (.int .i64 1024)] (.bin .leq), m_ 24 [s_ 20, s_ 23, k_ (.bool false)] .pick, o1 25 24 .mv, g1 26 25 1 (.load true 6), g1 27 25 1 (.faddr false 3 1), g1 28 25 27 (.load false 1), g_ 29 25 true [k_ (.fn 31 []), s_ 26, s_ 28] .call, m_ 30 [s_ 25, s_ 29, k_ (.bool false)] .pick, o1 31 30 .mv, g1 32 31 1 (.faddr false 4 1), g1 33 31 32 (.load false 1), g1 34 31 33 (.len false), g_ 35 31 true [s_ 34, k_ (.int .i64 4096)] (.bin .leq), m_ 36 [s_ 31, s_ 35, k_ (.bool false)] .pick, o1 37 36 .mv, g1 38 37 1 (.faddr false 5 1), g1 39 37 38 (.load false 1), g1 40 37 39 (.len false), g_ 41 37 true [s_ 40, k_ (.int .i64 4096)] (.bin .leq), m_ 42 [s_ 37, s_ 41, k_ (.bool false)] .pick, o1 2 42 .mv]) .ret))
theorem zlt : z0k Try.prog 29 1 = some ⟨43, 1, [(.slot 2)], zd5⟩ := by kernel_rfl
def zd6 : AC := (.seq (.reg [o1 2 0 .box, o1 3 1 .box, c1 4 (.bool false) .mv]) (.seq (.reg [o1 6 3 (.faddr false 2 1), o1 7 6 (.load false 1), o1 8 7 (.len false), o1 5 8 .mv]) (.seq (.seq (.reg [o1 9 2 (.load true 6), o1 10 3 (.faddr false 0 1), o1 11 10 (.load false 1), k2 12 31 9 11, o1 13 12 (.un .not), o1 14 13 .mv, g_ 15 14 false [s_ 2] (.load true 6), g_ 16 14 false [s_ 3] (.faddr false 1 1), g_ 17 14 false [s_ 16] (.load false 1), g_ 18 14 false [k_ (.fn 31 []), s_ 15, s_ 17] .call, g_ 19 14 false [s_ 18] (.un .not), m_ 20 [s_ 14, k_ (.bool true), s_ 19] .pick, o1 21 20 .mv, g_ 22 21 false [s_ 2] (.faddr false 0 1), g_ 23 21 false [s_ 22] (.load false 1), g_ 24 21 false [s_ 3] (.faddr false 2 1), g_ 25 21 false [s_ 24] (.load false 1), g_ 26 21 false [k_ (.fn 32 []), s_ 23, s_ 25] .call, g_ 27 21 false [s_ 26] (.un .not), m_ 28 [s_ 21, k_ (.bool true), s_ 27] .pick, o1 29 28 .mv, g_ 30 29 false [s_ 3] (.faddr false 3 1), g_ 31 29 false [s_ 30] (.load false 1), g_ 32 29 false [s_ 5] .mv, g_ 33 29 false [s_ 32, k_ (.int .i64 1)] .min, g_ 34 29 false [s_ 31, s_ 33] (.bin .lss), m_ 35 [s_ 29, k_ (.bool true), s_ 34] .pick, o1 36 35 .mv, g_ 37 36 false [s_ 3] (.faddr false 3 1), g_ 38 36 false [s_ 37] (.load false 1), g_ 39 36 false [s_ 5] .mv, g_ 40 36 false [s_ 38, s_ 39] (.bin .gtr), m_ 41 [s_ 36, k_ (.bool true), s_ 40] .pick]) (.cond (.slot 41) (.seq (.reg [c1 4 (.bool false) .mv]) .ret) .skip)) (.seq (.reg [o1 42 2 (.load true 6), o1 43 3 (.faddr false 4 1), o1 44 43 (.load false 1), o1 45 3 (.faddr false 2 1), o1 46 45 (.load false 1), k3 47 33 42 44 46, o1 4 47 .mv]) .ret))))
theorem zlu : z0k Try.prog 30 2 = some ⟨48, 2, [(.slot 4)], zd6⟩ := by kernel_rfl
def zb7 : AC := (.seq (.reg [o1 2 0 .box, c1 4 (.bool false) .mv]) (.seq (.reg [o1 5 1 .mv, c2 6 5 (.int .i64 0) (.bin .geq), o1 7 6 .mv, g1 8 7 1 .mv, g1 9 7 2 (.faddr false 2 1), g1 10 7 9 (.load false 1), g2 11 7 8 10 (.bin .lss), m_ 12 [s_ 7, s_ 11, k_ (.bool false)] .pick, o1 4 12 .mv]) .ret))
theorem zjn : z0k Try.prog 31 2 = some ⟨13, 2, [(.slot 4)], zb7⟩ := by kernel_rfl
def z9n : AC := (.seq (.reg [c1 4 (.bool false) .mv]) (.seq (.seq (.reg [o1 8 1 .mv, o1 9 8 (.len false), c2 10 9 (.int .i64 4) (.bin .gtr)]) (.cond (.slot 10) (.seq (.reg [c1 4 (.bool false) .mv]) .ret) .skip)) (.seq (.reg [o1 11 0 .mv, k1 12 37 11, o1 5 12 .mv]) (.seq (.seq (.reg [o1 13 1 .mv, o1 14 13 (.len false), c1 15 (.int .i64 0) .mv]) (.block 0 (.loop (.seq (.reg [o2 16 15 14 (.bin .lss)]) (.seq (.cond (.slot 16) .skip (.exit 0)) (.seq (.block 1 (.seq (.reg [o2 17 13 15 (.iaddr 1), o1 18 17 (.load false 1), o1 7 18 .mv]) (.seq (.reg [o1 19 7 .mv, o1 20 19 (.len false), c2 21 20 (.int .i64 0) (.bin .eql), o1 22 21 .mv, g_ 23 22 false [s_ 7] .mv, g_ 24 22 false [s_ 23] (.len false), g_ 25 22 false [s_ 24, k_ (.int .i64 64)] (.bin .gtr), m_ 26 [s_ 22, k_ (.bool true), s_ 25] .pick, o1 27 26 .mv, g_ 28 27 false [s_ 7] .mv, g_ 29 27 false [k_ (.fn 50 []), s_ 28] .call, g_ 30 27 false [s_ 29] (.un .not), m_ 31 [s_ 27, k_ (.bool true), s_ 30] .pick, o1 32 31 .mv, g_ 33 32 false [s_ 7] .mv, g_ 34 32 false [s_ 5] .mv, g_ 35 32 false [k_ (.fn 51 []), s_ 33, s_ 34] .call, g_ 36 32 false [s_ 35] (.un .not), m_ 37 [s_ 32, k_ (.bool true), s_ 36] .pick]) (.cond (.slot 37) (.seq (.reg [c1 4 (.bool false) .mv]) .ret) .skip)))) (.reg [c2 38 15 (.int .i64 1) (.bin .add), o1 15 38 .mv]))))))) (.seq (.reg [c1 4 (.bool true) .mv]) .ret)))))
theorem zha : z0k Try.prog 32 2 = some ⟨39, 2, [(.slot 4)], z9n⟩ := by kernel_rfl
def z9o : AC := (.seq (.reg [o1 3 0 .box, c1 6 (.bool false) .mv]) (.seq (.seq (.reg [o1 9 1 .mv, o1 10 9 (.len false), c2 11 10 (.int .i64 64) (.bin .gtr)]) (.cond (.slot 11) (.seq (.reg [c1 6 (.bool false) .mv]) .ret) .skip)) (.seq (.seq (.reg [o1 12 1 .mv, o1 13 12 (.len false), c1 14 (.int .i64 0) .mv]) (.block 0 (.loop (.seq (.reg [o2 15 14 13 (.bin .lss)]) (.seq (.cond (.slot 15) .skip (.exit 0)) (.seq (.block 1 (.seq (.reg [o2 16 12 14 (.iaddr 6), o1 17 16 (.load true 6), o0 8 (.alloc (.agg [(.int .i64 0), (.int .i64 0), (.int .i64 0), (.int .i64 0), (.int .i64 0), .nilS]) 6), n2 8 17 (.store 6)]) (.seq (.reg [o1 18 8 (.load true 6), o1 19 3 (.faddr false 0 1), o1 20 19 (.load false 1), o1 21 3 (.faddr false 1 1), o1 22 21 (.load false 1), o1 23 2 .mv, m_ 24 [k_ (.fn 52 []), s_ 18, s_ 20, s_ 22, s_ 23] .call, o1 25 24 (.un .not)]) (.cond (.slot 25) (.seq (.reg [c1 6 (.bool false) .mv]) .ret) .skip)))) (.reg [c2 26 14 (.int .i64 1) (.bin .add), o1 14 26 .mv]))))))) (.seq (.reg [c1 6 (.bool true) .mv]) .ret))))
theorem zhb : z0k Try.prog 33 3 = some ⟨27, 3, [(.slot 6)], z9o⟩ := by kernel_rfl
def zb8 : AC := (.seq (.reg [o1 1 0 .box, c1 2 (.bool false) .mv]) (.seq (.reg [o1 14 1 (.faddr false 2 1), o1 15 14 (.load false 1), o2 16 15 15 (.mkSlice 1 24 .nilS), o1 3 16 .mv]) (.seq (.reg [o1 17 1 (.faddr false 2 1), o1 18 17 (.load false 1), o2 19 18 18 (.mkSlice 1 8 (.int .i64 0)), o1 4 19 .mv]) (.seq (.seq (.reg [o1 20 1 (.faddr false 4 1), o1 21 20 (.load false 1), o1 22 21 (.len false), c1 23 (.int .i64 0) .mv]) (.block 0 (.loop (.seq (.reg [o2 24 23 22 (.bin .lss)]) (.seq (.cond (.slot 24) .skip (.exit 0)) (.seq (.block 1 (.seq (.reg [o2 25 21 23 (.iaddr 5), o1 26 25 (.load true 5), o0 6 (.alloc (.agg [(.int .i64 0), (.int .i64 0), .nilS, (.int .i64 0), .nilS]) 5), n2 6 26 (.store 5)]) (.seq (.reg [o1 27 6 (.faddr false 2 1), o1 28 27 (.load false 1), o1 29 28 (.len false), c2 30 29 (.int .i64 0) (.bin .eql)]) (.cond (.slot 30) (.seq (.grx [false, true, true, false, true, true, true, false, true, true, false, false, false, false] [m_ 31 [s_ 3] .mv, m_ 32 [s_ 6] (.faddr false 0 1), m_ 33 [s_ 32] (.load false 1), m_ 34 [s_ 3] .mv, m_ 35 [s_ 6] (.faddr false 0 1), m_ 36 [s_ 35] (.load false 1), m_ 37 [s_ 34, s_ 36] (.iaddr 1), m_ 38 [s_ 37] (.load false 1), m_ 39 [s_ 6] (.faddr false 1 1), m_ 40 [s_ 39] (.load false 1), m_ 41 [s_ 40] (.bslice 1 1 (.int .i64 0) [0]), m_ 42 [s_ 38, s_ 41] (.app 1 8 (.int .i64 0)), m_ 43 [s_ 31, s_ 33] (.iaddr 1), h_ [s_ 43, s_ 42] (.store 1)]) (.reg [o1 44 4 .mv, o1 45 6 (.faddr false 1 1), o1 46 45 (.load false 1), o2 47 44 46 (.iaddr 1), o1 48 47 (.load false 1), c2 49 48 (.int .i64 1) (.bin .add), o2 50 44 46 (.iaddr 1), n2 50 49 (.store 1)])) .skip)))) (.reg [c2 51 23 (.int .i64 1) (.bin .add), o1 23 51 .mv]))))))) (.seq (.reg [c1 7 .nilS .mv]) (.seq (.seq (.reg [o1 52 4 .mv, o1 53 52 (.len false), c1 54 (.int .i64 0) .mv]) (.block 2 (.loop (.seq (.reg [o2 55 54 53 (.bin .lss)]) (.seq (.cond (.slot 55) .skip (.exit 2)) (.seq (.block 3 (.seq (.reg [o1 56 54 .mv, o2 57 52 54 (.iaddr 1), o1 58 57 (.load false 1), o1 8 56 .mv, o1 9 58 .mv]) (.seq (.reg [o1 59 9 .mv, c2 60 59 (.int .i64 0) (.bin .eql)]) (.cond (.slot 60) (.reg [o1 61 7 .mv, o1 62 8 .mv, o1 63 62 (.bslice 1 1 (.int .i64 0) [0]), o2 64 61 63 (.app 1 8 (.int .i64 0)), o1 7 64 .mv]) .skip)))) (.reg [c2 65 54 (.int .i64 1) (.bin .add), o1 54 65 .mv]))))))) (.seq (.reg [c1 10 (.int .i64 0) .mv]) (.seq (.block 4 (.loop (.seq (.seq (.reg [o1 66 7 .mv, o1 67 66 (.len false), c2 68 67 (.int .i64 0) (.bin .gtr)]) (.cond (.slot 68) .skip (.exit 4))) (.seq (.block 5 (.seq (.reg [o1 71 7 .mv, c2 72 71 (.int .i64 0) (.iaddr 1), o1 73 72 (.load false 1), o1 11 73 .mv]) (.seq (.reg [o1 74 7 .mv, c2 75 74 (.int .i64 1) (.slice 1 true false false), o1 7 75 .mv]) (.seq (.reg [o1 76 3 .mv, o1 77 11 .mv, o2 78 76 77 (.iaddr 1), o1 79 78 (.load false 1), o1 80 79 (.len false), c1 81 (.int .i64 0) .mv]) (.block 6 (.loop (.seq (.reg [o2 82 81 80 (.bin .lss)]) (.seq (.cond (.slot 82) .skip (.exit 6)) (.seq (.block 7 (.seq (.reg [o2 83 79 81 (.iaddr 1), o1 84 83 (.load false 1), o1 13 84 .mv]) (.seq (.reg [o1 85 4 .mv, o1 86 13 .mv, o2 87 85 86 (.iaddr 1), o1 88 87 (.load false 1), c2 89 88 (.int .i64 1) (.bin .sub), o2 90 85 86 (.iaddr 1), n2 90 89 (.store 1)]) (.seq (.reg [o1 91 4 .mv, o1 92 13 .mv, o2 93 91 92 (.iaddr 1), o1 94 93 (.load false 1), c2 95 94 (.int .i64 0) (.bin .eql)]) (.cond (.slot 95) (.reg [o1 96 7 .mv, o1 97 13 .mv, o1 98 97 (.bslice 1 1 (.int .i64 0) [0]), o2 99 96 98 (.app 1 8 (.int .i64 0)), o1 7 99 .mv]) .skip))))) (.reg [c2 100 81 (.int .i64 1) (.bin .add), o1 81 100 .mv])))))))))) (.reg [o1 69 10 .mv, c2 70 69 (.int .i64 1) (.bin .add), o1 10 70 .mv]))))) (.seq (.reg [o1 101 10 .mv, o1 102 1 (.faddr false 2 1), o1 103 102 (.load false 1), o2 104 101 103 (.bin .lss), o1 2 104 .mv]) .ret)))))))))
theorem zjo : z0k Try.prog 34 1 = some ⟨105, 1, [(.slot 2)], zb8⟩ := by kernel_rfl
def z9p : AC := (.seq (.reg [c1 2 .nilS .mv]) (.seq (.seq (.reg [o1 3 0 .mv]) (.block 0 (.seq (.reg [c2 5 3 (.int .i64 1) (.bin .eql), o1 4 5 .mv]) (.cond (.slot 4) (.seq (.reg [m_ 6 [k_ (.int .i64 0), k_ (.int .i64 255)] (.build [(.int .i64 0), (.int .i64 0)] [(0, 1), (1, 1)] [0, 1]), o1 7 6 (.bslice 2 1 (.agg [(.int .i64 0), (.int .i64 0)]) [0]), o1 2 7 .mv]) .ret) (.seq (.reg [c2 9 3 (.int .i64 2) (.bin .eql), o1 8 9 .mv]) (.cond (.slot 8) (.seq (.reg [m_ 10 [k_ (.int .i64 0), k_ (.int .i64 55295)] (.build [(.int .i64 0), (.int .i64 0)] [(0, 1), (1, 1)] [0, 1]), m_ 11 [k_ (.int .i64 57344), k_ (.int .i64 1114111)] (.build [(.int .i64 0), (.int .i64 0)] [(0, 1), (1, 1)] [0, 1]), o2 12 10 11 (.bslice 2 2 (.agg [(.int .i64 0), (.int .i64 0)]) [0, 1]), o1 2 12 .mv]) .ret) .skip)))))) (.seq (.reg [c1 2 .nilS .mv]) .ret)))
theorem zhc : z0k Try.prog 37 1 = some ⟨13, 1, [(.slot 2)], z9p⟩ := by kernel_rfl
def z6x : AC := (.seq (.reg [o1 2 0 .box, o1 3 1 .box, c1 4 (.bool false) .mv]) (.seq (.reg [o1 5 2 (.faddr false 0 1), o1 6 5 (.load false 1), o1 7 3 (.faddr false 0 1), o1 8 7 (.load false 1), o2 9 6 8 (.bin .eql), o1 10 9 .mv, g1 11 10 2 (.faddr false 1 1), g1 12 10 11 (.load false 1), g1 13 10 3 (.faddr false 1 1), g1 14 10 13 (.load false 1), g2 15 10 12 14 (.bin .eql), m_ 16 [s_ 10, s_ 15, k_ (.bool false)] .pick, o1 17 16 .mv, g1 18 17 2 (.faddr false 3 1), g1 19 17 18 (.load false 1), g1 20 17 3 (.faddr false 3 1), g1 21 17 20 (.load false 1), g2 22 17 19 21 (.bin .eql), m_ 23 [s_ 17, s_ 22, k_ (.bool false)] .pick, o1 24 23 .mv, g1 25 24 2 (.faddr false 2 1), g1 26 24 25 (.load false 1), g1 27 24 3 (.faddr false 2 1), g1 28 24 27 (.load false 1), g_ 29 24 true [k_ (.fn 40 []), s_ 26, s_ 28] .call, m_ 30 [s_ 24, s_ 29, k_ (.bool false)] .pick, o1 31 30 .mv, g1 32 31 2 (.faddr false 4 1), g1 33 31 32 (.load false 1), g1 34 31 3 (.faddr false 4 1), g1 35 31 34 (.load false 1), g_ 36 31 true [k_ (.fn 41 []), s_ 33, s_ 35] .call, m_ 37 [s_ 31, s_ 36, k_ (.bool false)] .pick, o1 4 37 .mv]) .ret))
theorem zbv : z0k Try.prog 39 2 = some ⟨38, 2, [(.slot 4)], z6x⟩ := by kernel_rfl
def z6y : AC := (.seq (.reg [c1 4 (.bool false) .mv]) (.seq (.seq (.reg [o1 6 0 .mv, o1 7 6 (.len false), o1 8 1 .mv, o1 9 8 (.len false), o2 10 7 9 (.bin .neq)]) (.cond (.slot 10) (.seq (.reg [c1 4 (.bool false) .mv]) .ret) .skip)) (.seq (.seq (.reg [c1 5 (.int .i64 0) .mv]) (.block 0 (.loop (.seq (.seq (.reg [o1 11 5 .mv, o1 12 0 .mv, o1 13 12 (.len false), o2 14 11 13 (.bin .lss)]) (.cond (.slot 14) .skip (.exit 0))) (.seq (.block 1 (.seq (.dtl [o1 17 0 .mv, o1 18 5 .mv, o2 19 17 18 (.iaddr 1), o1 20 19 (.load false 1), o1 21 1 .mv, o1 22 5 .mv, o2 23 21 22 (.iaddr 1), o1 24 23 (.load false 1)] [k2 25 53 20 24, o1 26 25 (.un .not)]) (.cond (.slot 26) (.seq (.reg [c1 4 (.bool false) .mv]) .ret) .skip))) (.reg [o1 15 5 .mv, c2 16 15 (.int .i64 1) (.bin .add), o1 5 16 .mv])))))) (.seq (.reg [c1 4 (.bool true) .mv]) .ret))))
theorem zbw : z0k Try.prog 40 2 = some ⟨27, 2, [(.slot 4)], z6y⟩ := by kernel_rfl
def z6a : AC := (.seq (.reg [c1 4 (.bool false) .mv]) (.seq (.seq (.reg [o1 6 0 .mv, o1 7 6 (.len false), o1 8 1 .mv, o1 9 8 (.len false), o2 10 7 9 (.bin .neq)]) (.cond (.slot 10) (.seq (.reg [c1 4 (.bool false) .mv]) .ret) .skip)) (.seq (.seq (.reg [c1 5 (.int .i64 0) .mv]) (.block 0 (.loop (.seq (.seq (.reg [o1 11 5 .mv, o1 12 0 .mv, o1 13 12 (.len false), o2 14 11 13 (.bin .lss)]) (.cond (.slot 14) .skip (.exit 0))) (.seq (.block 1 (.seq (.dtl [o1 17 0 .mv, o1 18 5 .mv, o2 19 17 18 (.iaddr 6), o1 20 19 (.load true 6), o1 21 1 .mv, o1 22 5 .mv, o2 23 21 22 (.iaddr 6), o1 24 23 (.load true 6)] [k2 25 59 20 24, o1 26 25 (.un .not)]) (.cond (.slot 26) (.seq (.reg [c1 4 (.bool false) .mv]) .ret) .skip))) (.reg [o1 15 5 .mv, c2 16 15 (.int .i64 1) (.bin .add), o1 5 16 .mv])))))) (.seq (.reg [c1 4 (.bool true) .mv]) .ret))))
theorem zaj : z0k Try.prog 41 2 = some ⟨27, 2, [(.slot 4)], z6a⟩ := by kernel_rfl
def zb9 : AC := (.seq (.reg [o1 1 0 .box, c1 2 .nilS .mv]) (.seq (.reg [c1 3 .nilS .mv]) (.seq (.seq (.reg [o1 6 1 (.faddr false 4 1), o1 7 6 (.load false 1), o1 8 7 (.len false), c1 9 (.int .i64 0) .mv]) (.block 0 (.loop (.seq (.reg [o2 10 9 8 (.bin .lss)]) (.seq (.cond (.slot 10) .skip (.exit 0)) (.seq (.block 1 (.seq (.reg [o2 11 7 9 (.iaddr 5), o1 12 11 (.load true 5), o0 5 (.alloc (.agg [(.int .i64 0), (.int .i64 0), .nilS, (.int .i64 0), .nilS]) 5), n2 5 12 (.store 5)]) (.reg [o1 13 3 .mv, o1 14 5 (.faddr false 0 1), o1 15 14 (.load false 1), o1 16 5 (.faddr false 1 1), o1 17 16 (.load false 1), o2 18 15 17 (.build [(.int .i64 0), (.int .i64 0)] [(0, 1), (1, 1)] [0, 1]), o1 19 18 (.bslice 2 1 (.agg [(.int .i64 0), (.int .i64 0)]) [0]), o2 20 13 19 (.app 2 16 (.agg [(.int .i64 0), (.int .i64 0)])), o1 3 20 .mv]))) (.reg [c2 21 9 (.int .i64 1) (.bin .add), o1 9 21 .mv]))))))) (.seq (.reg [o1 22 1 (.faddr false 2 1), o1 23 22 (.load false 1), o1 24 1 (.faddr false 3 1), o1 25 24 (.load false 1), o1 26 25 (.bslice 1 1 (.int .i64 0) [0]), o1 27 3 .mv, k3 28 61 23 26 27, o1 2 28 .mv]) .ret))))
theorem zjp : z0k Try.prog 44 1 = some ⟨29, 1, [(.slot 2)], zb9⟩ := by kernel_rfl
def z9q : AC := (.seq (.reg [o1 1 0 .box, c1 2 .nilS .mv]) (.seq (.reg [c1 3 .nilS .mv]) (.seq (.reg [c1 4 .nilS .mv]) (.seq (.seq (.reg [o1 9 1 (.faddr false 4 1), o1 10 9 (.load false 1), o1 11 10 (.len false), c1 12 (.int .i64 0) .mv]) (.block 0 (.loop (.seq (.reg [o2 13 12 11 (.bin .lss)]) (.seq (.cond (.slot 13) .skip (.exit 0)) (.seq (.block 1 (.seq (.reg [o2 14 10 12 (.iaddr 5), o1 15 14 (.load true 5), o0 6 (.alloc (.agg [(.int .i64 0), (.int .i64 0), .nilS, (.int .i64 0), .nilS]) 5), n2 6 15 (.store 5)]) (.reg [o1 16 3 .mv, o1 17 6 (.faddr false 1 1), o1 18 17 (.load false 1), o1 19 6 (.faddr false 0 1), o1 20 19 (.load false 1), o2 21 18 20 (.build [(.int .i64 0), (.int .i64 0)] [(0, 1), (1, 1)] [0, 1]), o1 22 21 (.bslice 2 1 (.agg [(.int .i64 0), (.int .i64 0)]) [0]), o2 23 16 22 (.app 2 16 (.agg [(.int .i64 0), (.int .i64 0)])), o1 3 23 .mv]))) (.reg [c2 24 12 (.int .i64 1) (.bin .add), o1 12 24 .mv]))))))) (.seq (.seq (.reg [o1 25 1 (.faddr false 5 1), o1 26 25 (.load false 1), o1 27 26 (.len false), c1 28 (.int .i64 0) .mv]) (.block 2 (.loop (.seq (.reg [o2 29 28 27 (.bin .lss)]) (.seq (.cond (.slot 29) .skip (.exit 2)) (.seq (.block 3 (.seq (.reg [o2 30 26 28 (.iaddr 3), o1 31 30 (.load true 3), o0 8 (.alloc (.agg [(.int .i64 0), .nilS, .nilS]) 3), n2 8 31 (.store 3)]) (.reg [o1 32 4 .mv, o1 33 8 (.faddr false 0 1), o1 34 33 (.load false 1), o1 35 34 (.bslice 1 1 (.int .i64 0) [0]), o2 36 32 35 (.app 1 8 (.int .i64 0)), o1 4 36 .mv]))) (.reg [c2 37 28 (.int .i64 1) (.bin .add), o1 28 37 .mv]))))))) (.seq (.reg [o1 38 1 (.faddr false 2 1), o1 39 38 (.load false 1), o1 40 4 .mv, o1 41 3 .mv, k3 42 61 39 40 41, o1 2 42 .mv]) .ret))))))
theorem zhd : z0k Try.prog 45 1 = some ⟨43, 1, [(.slot 2)], z9q⟩ := by kernel_rfl
def zfl : AC := (.seq (.reg [c1 4 .nilS .mv, c1 5 .nilS .mv]) (.seq (.reg [o1 8 0 .mv, k1 9 62 8, o1 10 1 .mv, k1 11 63 10, o1 0 9 .mv, o1 1 11 .mv]) (.seq (.seq (.reg [o1 12 0 .mv, o1 13 12 (.len false), c1 14 (.int .i64 0) .mv]) (.block 0 (.loop (.seq (.reg [o2 15 14 13 (.bin .lss)]) (.seq (.cond (.slot 15) .skip (.exit 0)) (.seq (.block 1 (.seq (.reg [o1 16 14 .mv, o1 6 16 .mv]) (.reg [o1 17 0 .mv, o1 18 6 .mv, o1 19 0 .mv, o1 20 6 .mv, o2 21 19 20 (.iaddr 1), o1 22 21 (.load false 1), k1 23 64 22, o2 24 17 18 (.iaddr 1), n2 24 23 (.store 1)]))) (.reg [c2 25 14 (.int .i64 1) (.bin .add), o1 14 25 .mv]))))))) (.seq (.seq (.reg [o1 26 1 .mv, o1 27 26 (.len false), c1 28 (.int .i64 0) .mv]) (.block 2 (.loop (.seq (.reg [o2 29 28 27 (.bin .lss)]) (.seq (.cond (.slot 29) .skip (.exit 2)) (.seq (.block 3 (.seq (.reg [o1 30 28 .mv, o1 7 30 .mv]) (.reg [o1 31 1 .mv, o1 32 7 .mv, o1 33 1 .mv, o1 34 7 .mv, o2 35 33 34 (.iaddr 6), o1 36 35 (.faddr false 5 1), o1 37 36 (.load false 1), k1 38 65 37, o2 39 31 32 (.iaddr 6), o1 40 39 (.faddr false 5 1), n2 40 38 (.store 1)]))) (.reg [c2 41 28 (.int .i64 1) (.bin .add), o1 28 41 .mv]))))))) (.seq (.reg [o1 42 0 .mv, o1 43 1 .mv, o1 4 42 .mv, o1 5 43 .mv]) .ret)))))
theorem zqr : z0k Try.prog 46 2 = some ⟨44, 2, [(.slot 4), (.slot 5)], zfl⟩ := by kernel_rfl
def zd7 : AC := (.seq (.reg [c1 2 .nilS .mv]) (.seq (.reg [c1 3 .nilS .mv]) (.seq (.seq (.reg [o1 6 0 .mv, o1 7 6 (.len false), c1 8 (.int .i64 0) .mv]) (.block 0 (.loop (.seq (.reg [o2 9 8 7 (.bin .lss)]) (.seq (.cond (.slot 9) .skip (.exit 0)) (.seq (.block 1 (.seq (.reg [o1 10 8 .mv, o2 11 6 8 (.iaddr 1), o1 12 11 (.load false 1), o1 4 10 .mv, o1 5 12 .mv]) (.seq (.reg [o1 13 5 .mv]) (.cond (.slot 13) (.reg [o1 14 3 .mv, o1 15 4 .mv, o1 16 15 (.bslice 1 1 (.int .i64 0) [0]), o2 17 14 16 (.app 1 8 (.int .i64 0)), o1 3 17 .mv]) .skip)))) (.reg [c2 18 8 (.int .i64 1) (.bin .add), o1 8 18 .mv]))))))) (.seq (.reg [o1 19 3 .mv, o1 2 19 .mv]) .ret))))
theorem zlv : z0k Try.prog 47 1 = some ⟨20, 1, [(.slot 2)], zd7⟩ := by kernel_rfl
def zba : AC := (.seq (.reg [c1 2 (.bool false) .mv]) (.seq (.reg [c1 3 (.int .i64 (-1073741826)) .mv]) (.seq (.seq (.reg [o1 6 0 .mv, o1 7 6 (.len false), c1 8 (.int .i64 0) .mv]) (.block 0 (.loop (.seq (.reg [o2 9 8 7 (.bin .lss)]) (.seq (.cond (.slot 9) .skip (.exit 0)) (.seq (.block 1 (.seq (.reg [o2 10 6 8 (.iaddr 2), o1 11 10 (.load true 2), o0 5 (.alloc (.agg [(.int .i64 0), (.int .i64 0)]) 2), n2 5 11 (.store 2)]) (.seq (.seq (.reg [o1 12 5 (.faddr false 0 1), o1 13 12 (.load false 1), o1 14 5 (.faddr false 1 1), o1 15 14 (.load false 1), o2 16 13 15 (.bin .gtr), o1 17 16 .mv, g_ 18 17 false [s_ 5] (.faddr false 0 1), g_ 19 17 false [s_ 18] (.load false 1), g_ 20 17 false [s_ 19, k_ (.int .i64 (-1073741824))] (.bin .lss), m_ 21 [s_ 17, k_ (.bool true), s_ 20] .pick, o1 22 21 .mv, g_ 23 22 false [s_ 5] (.faddr false 1 1), g_ 24 22 false [s_ 23] (.load false 1), g_ 25 22 false [s_ 24, k_ (.int .i64 1073741824)] (.bin .gtr), m_ 26 [s_ 22, k_ (.bool true), s_ 25] .pick, o1 27 26 .mv, g_ 28 27 false [s_ 5] (.faddr false 0 1), g_ 29 27 false [s_ 28] (.load false 1), g_ 30 27 false [s_ 3] .mv, g_ 31 27 false [s_ 30, k_ (.int .i64 1)] (.bin .add), g_ 32 27 false [s_ 29, s_ 31] (.bin .leq), m_ 33 [s_ 27, k_ (.bool true), s_ 32] .pick]) (.cond (.slot 33) (.seq (.reg [c1 2 (.bool false) .mv]) .ret) .skip)) (.reg [o1 34 5 (.faddr false 1 1), o1 35 34 (.load false 1), o1 3 35 .mv])))) (.reg [c2 36 8 (.int .i64 1) (.bin .add), o1 8 36 .mv]))))))) (.seq (.reg [c1 2 (.bool true) .mv]) .ret))))
theorem zjq : z0k Try.prog 50 1 = some ⟨37, 1, [(.slot 2)], zba⟩ := by kernel_rfl
def z9r : AC := (.seq (.reg [c1 4 (.bool false) .mv]) (.seq (.reg [o1 5 0 .mv, o1 6 1 .mv, k2 7 66 5 6, o1 8 7 (.len false), c2 9 8 (.int .i64 0) (.bin .eql), o1 4 9 .mv]) .ret))
theorem zhe : z0k Try.prog 51 2 = some ⟨10, 2, [(.slot 4)], z9r⟩ := by kernel_rfl
def zd8 : AC := (.seq (.reg [o1 4 0 .box, c1 8 (.bool false) .mv]) (.seq (.seq (.reg [o1 11 4 (.load true 6), o1 12 1 .mv, o1 13 2 .mv, o1 14 3 .mv, o1 15 14 (.len false), m_ 16 [k_ (.fn 67 []), s_ 11, s_ 12, s_ 13, s_ 15] .call, o1 17 16 (.un .not)]) (.cond (.slot 17) (.seq (.reg [c1 8 (.bool false) .mv]) .ret) .skip)) (.seq (.reg [o1 19 4 (.load true 6), o1 20 3 .mv, k2 21 68 19 20, o1 18 21 .mv, o1 22 18 (.extract 0), o1 23 18 (.extract 1), o1 9 22 .mv, o1 10 23 .mv]) (.seq (.reg [o1 24 10 .mv, o1 25 24 .mv, g1 26 25 9 .mv, g1 27 25 2 .mv, g_ 28 25 true [k_ (.fn 37 []), s_ 27] .call, g_ 29 25 true [k_ (.fn 51 []), s_ 26, s_ 28] .call, m_ 30 [s_ 25, s_ 29, k_ (.bool false)] .pick, o1 8 30 .mv]) .ret))))
theorem zlw : z0k Try.prog 52 4 = some ⟨31, 4, [(.slot 8)], zd8⟩ := by kernel_rfl
def zbb : AC := (.seq (.reg [c1 4 (.bool false) .mv]) (.seq (.seq (.reg [o1 6 0 .mv, o1 7 6 (.len false), o1 8 1 .mv, o1 9 8 (.len false), o2 10 7 9 (.bin .neq)]) (.cond (.slot 10) (.seq (.reg [c1 4 (.bool false) .mv]) .ret) .skip)) (.seq (.seq (.reg [c1 5 (.int .i64 0) .mv]) (.block 0 (.loop (.seq (.seq (.reg [o1 11 5 .mv, o1 12 0 .mv, o1 13 12 (.len false), o2 14 11 13 (.bin .lss)]) (.cond (.slot 14) .skip (.exit 0))) (.seq (.block 1 (.seq (.dreg [o1 17 0 .mv, o1 18 5 .mv, o2 19 17 18 (.iaddr 2), o1 20 19 (.load true 2), o1 21 1 .mv, o1 22 5 .mv, o2 23 21 22 (.iaddr 2), o1 24 23 (.load true 2), o2 25 20 24 (.eqs true [1, 1])]) (.cond (.slot 25) (.seq (.reg [c1 4 (.bool false) .mv]) .ret) .skip))) (.reg [o1 15 5 .mv, c2 16 15 (.int .i64 1) (.bin .add), o1 5 16 .mv])))))) (.seq (.reg [c1 4 (.bool true) .mv]) .ret))))
theorem zjr : z0k Try.prog 53 2 = some ⟨26, 2, [(.slot 4)], zbb⟩ := by kernel_rfl
def zbc : AC := (.seq (.reg [o0 2 (.alloc (.agg [(.int .i64 0), (.int .i64 0), (.int .i64 0), (.int .i64 0)]) 4)]) (.seq (.reg [o1 3 0 .mv, c2 4 3 (.int .i64 21) (.build [(.int .i64 0), (.int .i64 0), (.int .i64 0), (.int .i64 0)] [(0, 1), (1, 1), (2, 1), (3, 1)] [0, 2]), n2 2 4 (.store 4)]) .ret))
theorem zjs : z0k Try.prog 58 1 = some ⟨5, 1, [(.cell 2 true 4)], zbc⟩ := by kernel_rfl
def zbd : AC := (.seq (.reg [o1 2 0 .box, o1 3 1 .box, c1 4 (.bool false) .mv]) (.seq (.seq (.reg [o1 6 2 (.faddr false 0 1), o1 7 6 (.load false 1), o1 8 3 (.faddr false 0 1), o1 9 8 (.load false 1), o2 10 7 9 (.bin .neq), o1 11 10 .mv, g_ 12 11 false [s_ 2] (.faddr false 1 1), g_ 13 11 false [s_ 12] (.load false 1), g_ 14 11 false [s_ 3] (.faddr false 1 1), g_ 15 11 false [s_ 14] (.load false 1), g_ 16 11 false [s_ 13, s_ 15] (.bin .neq), m_ 17 [s_ 11, k_ (.bool true), s_ 16] .pick, o1 18 17 .mv, g_ 19 18 false [s_ 2] (.faddr false 2 1), g_ 20 18 false [s_ 19] (.load false 1), g_ 21 18 false [s_ 3] (.faddr false 2 1), g_ 22 18 false [s_ 21] (.load false 1), g_ 23 18 false [s_ 20, s_ 22] (.bin .neq), m_ 24 [s_ 18, k_ (.bool true), s_ 23] .pick, o1 25 24 .mv, g_ 26 25 false [s_ 2] (.faddr false 3 1), g_ 27 25 false [s_ 26] (.load false 1), g_ 28 25 false [s_ 3] (.faddr false 3 1), g_ 29 25 false [s_ 28] (.load false 1), g_ 30 25 false [s_ 27, s_ 29] (.bin .neq), m_ 31 [s_ 25, k_ (.bool true), s_ 30] .pick, o1 32 31 .mv, g_ 33 32 false [s_ 2] (.faddr false 4 1), g_ 34 32 false [s_ 33] (.load false 1), g_ 35 32 false [s_ 3] (.faddr false 4 1), g_ 36 32 false [s_ 35] (.load false 1), g_ 37 32 false [s_ 34, s_ 36] (.bin .neq), m_ 38 [s_ 32, k_ (.bool true), s_ 37] .pick, o1 39 38 .mv, g_ 40 39 false [s_ 2] (.faddr false 5 1), g_ 41 39 false [s_ 40] (.load false 1), g_ 42 39 false [s_ 41] (.len false), g_ 43 39 false [s_ 3] (.faddr false 5 1), g_ 44 39 false [s_ 43] (.load false 1), g_ 45 39 false [s_ 44] (.len false), g_ 46 39 false [s_ 42, s_ 45] (.bin .neq), m_ 47 [s_ 39, k_ (.bool true), s_ 46] .pick]) (.cond (.slot 47) (.seq (.reg [c1 4 (.bool false) .mv]) .ret) .skip)) (.seq (.seq (.reg [c1 5 (.int .i64 0) .mv]) (.block 0 (.loop (.seq (.seq (.reg [o1 48 5 .mv, o1 49 2 (.faddr false 5 1), o1 50 49 (.load false 1), o1 51 50 (.len false), o2 52 48 51 (.bin .lss)]) (.cond (.slot 52) .skip (.exit 0))) (.seq (.block 1 (.seq (.dreg [o1 55 2 (.faddr false 5 1), o1 56 55 (.load false 1), o1 57 5 .mv, o2 58 56 57 (.iaddr 4), o1 59 58 (.load true 4), o1 60 3 (.faddr false 5 1), o1 61 60 (.load false 1), o1 62 5 .mv, o2 63 61 62 (.iaddr 4), o1 64 63 (.load true 4), o2 65 59 64 (.eqs true [1, 1, 1, 1])]) (.cond (.slot 65) (.seq (.reg [c1 4 (.bool false) .mv]) .ret) .skip))) (.reg [o1 53 5 .mv, c2 54 53 (.int .i64 1) (.bin .add), o1 5 54 .mv])))))) (.seq (.reg [c1 4 (.bool true) .mv]) .ret))))
theorem zjt : z0k Try.prog 59 2 = some ⟨66, 2, [(.slot 4)], zbd⟩ := by kernel_rfl
def z3w : AC := (.seq (.reg [c1 6 .nilS .mv]) (.seq (.reg [o1 13 0 .mv, o2 14 13 13 (.mkSlice 1 24 .nilS), o1 7 14 .mv]) (.seq (.seq (.reg [o1 15 2 .mv, o1 16 15 (.len false), c1 17 (.int .i64 0) .mv]) (.block 0 (.loop (.seq (.reg [o2 18 17 16 (.bin .lss)]) (.seq (.cond (.slot 18) .skip (.exit 0)) (.seq (.block 1 (.seq (.reg [o2 19 15 17 (.iaddr 2), o1 20 19 (.load true 2), o0 9 (.alloc (.agg [(.int .i64 0), (.int .i64 0)]) 2), n2 9 20 (.store 2)]) (.grx [false, true, true, false, true, true, true, false, true, true, false, false, false, false] [m_ 21 [s_ 7] .mv, m_ 22 [s_ 9, k_ (.int .i64 0)] (.iaddrA 2 1 false), m_ 23 [s_ 22] (.load false 1), m_ 24 [s_ 7] .mv, m_ 25 [s_ 9, k_ (.int .i64 0)] (.iaddrA 2 1 false), m_ 26 [s_ 25] (.load false 1), m_ 27 [s_ 24, s_ 26] (.iaddr 1), m_ 28 [s_ 27] (.load false 1), m_ 29 [s_ 9, k_ (.int .i64 1)] (.iaddrA 2 1 false), m_ 30 [s_ 29] (.load false 1), m_ 31 [s_ 30] (.bslice 1 1 (.int .i64 0) [0]), m_ 32 [s_ 28, s_ 31] (.app 1 8 (.int .i64 0)), m_ 33 [s_ 21, s_ 23] (.iaddr 1), h_ [s_ 33, s_ 32] (.store 1)]))) (.reg [c2 34 17 (.int .i64 1) (.bin .add), o1 17 34 .mv]))))))) (.seq (.reg [o1 35 0 .mv, o2 36 35 35 (.mkSlice 1 1 (.bool false)), o1 10 36 .mv]) (.seq (.reg [o1 37 1 .mv, k1 38 74 37, o1 11 38 .mv]) (.seq (.block 2 (.loop (.seq (.seq (.reg [o1 39 11 .mv, o1 40 39 (.len false), c2 41 40 (.int .i64 0) (.bin .gtr)]) (.cond (.slot 41) .skip (.exit 2))) (.block 3 (.seq (.reg [o1 42 11 .mv, o1 43 11 .mv, o1 44 43 (.len false), c2 45 44 (.int .i64 1) (.bin .sub), o2 46 42 45 (.iaddr 1), o1 47 46 (.load false 1), o1 12 47 .mv]) (.seq (.reg [o1 48 11 .mv, o1 49 11 .mv, o1 50 49 (.len false), c2 51 50 (.int .i64 1) (.bin .sub), o2 52 48 51 (.slice 1 false true false), o1 11 52 .mv]) (.seq (.seq (.reg [o1 53 10 .mv, o1 54 12 .mv, o2 55 53 54 (.iaddr 1), o1 56 55 (.load false 1)]) (.cond (.slot 56) (.exit 3) .skip)) (.seq (.reg [o1 57 10 .mv, o1 58 12 .mv, o2 59 57 58 (.iaddr 1), h_ [s_ 59, k_ (.bool true)] (.store 1)]) (.reg [o1 60 11 .mv, o1 61 7 .mv, o1 62 12 .mv, o2 63 61 62 (.iaddr 1), o1 64 63 (.load false 1), o2 65 60 64 (.app 1 8 (.int .i64 0)), o1 11 65 .mv]))))))))) (.seq (.reg [o1 66 10 .mv, o1 6 66 .mv]) .ret)))))))
theorem z9s : z0k Try.prog 61 3 = some ⟨67, 3, [(.slot 6)], z3w⟩ := by kernel_rfl
def z1e : AC := (.seq (.reg [c1 2 .nilS .mv]) (.seq (.seq (.reg [o1 3 0 .mv, c2 4 3 .nilS (.eqn false)]) (.cond (.slot 4) (.seq (.reg [c1 2 .nilS .mv]) .ret) .skip)) (.seq (.reg [o0 5 (.bslice 1 0 .nilS []), o1 6 0 .mv, o2 7 5 6 (.app 1 24 .nilS), o1 2 7 .mv]) .ret)))
theorem z1t : z0k Try.prog 62 1 = some ⟨8, 1, [(.slot 2)], z1e⟩ := by kernel_rfl
def z1h : AC := (.seq (.reg [c1 2 .nilS .mv]) (.seq (.seq (.reg [o1 3 0 .mv, c2 4 3 .nilS (.eqn false)]) (.cond (.slot 4) (.seq (.reg [c1 2 .nilS .mv]) .ret) .skip)) (.seq (.reg [o0 5 (.bslice 6 0 (.agg [(.int .i64 0), (.int .i64 0), (.int .i64 0), (.int .i64 0), (.int .i64 0), .nilS]) []), o1 6 0 .mv, o2 7 5 6 (.app 6 64 (.agg [(.int .i64 0), (.int .i64 0), (.int .i64 0), (.int .i64 0), (.int .i64 0), .nilS])), o1 2 7 .mv]) .ret)))
theorem z1z : z0k Try.prog 63 1 = some ⟨8, 1, [(.slot 2)], z1h⟩ := by kernel_rfl
def z1i : AC := (.seq (.reg [c1 2 .nilS .mv]) (.seq (.seq (.reg [o1 3 0 .mv, c2 4 3 .nilS (.eqn false)]) (.cond (.slot 4) (.seq (.reg [c1 2 .nilS .mv]) .ret) .skip)) (.seq (.reg [o0 5 (.bslice 2 0 (.agg [(.int .i64 0), (.int .i64 0)]) []), o1 6 0 .mv, o2 7 5 6 (.app 2 16 (.agg [(.int .i64 0), (.int .i64 0)])), o1 2 7 .mv]) .ret)))
theorem z2a : z0k Try.prog 64 1 = some ⟨8, 1, [(.slot 2)], z1i⟩ := by kernel_rfl
def z1j : AC := (.seq (.reg [c1 2 .nilS .mv]) (.seq (.seq (.reg [o1 3 0 .mv, c2 4 3 .nilS (.eqn false)]) (.cond (.slot 4) (.seq (.reg [c1 2 .nilS .mv]) .ret) .skip)) (.seq (.reg [o0 5 (.bslice 4 0 (.agg [(.int .i64 0), (.int .i64 0), (.int .i64 0), (.int .i64 0)]) []), o1 6 0 .mv, o2 7 5 6 (.app 4 32 (.agg [(.int .i64 0), (.int .i64 0), (.int .i64 0), (.int .i64 0)])), o1 2 7 .mv]) .ret)))
theorem z2b : z0k Try.prog 65 1 = some ⟨8, 1, [(.slot 2)], z1j⟩ := by kernel_rfl
def zbe : AC := (.seq (.reg [c1 4 .nilS .mv]) (.seq (.reg [c1 5 .nilS .mv]) (.seq (.reg [c1 6 (.int .i64 (-1073741824)) .mv]) (.seq (.seq (.reg [o1 9 1 .mv, k1 10 75 9, o1 11 10 (.len false), c1 12 (.int .i64 0) .mv]) (.block 0 (.loop (.seq (.reg [o2 13 12 11 (.bin .lss)]) (.seq (.cond (.slot 13) .skip (.exit 0)) (.seq (.block 1 (.seq (.reg [o2 14 10 12 (.iaddr 2), o1 15 14 (.load true 2), o0 8 (.alloc (.agg [(.int .i64 0), (.int .i64 0)]) 2), n2 8 15 (.store 2)]) (.seq (.reg [o1 16 5 .mv, o1 17 6 .mv, o1 18 8 (.faddr false 0 1), o1 19 18 (.load false 1), c2 20 19 (.int .i64 1) (.bin .sub), o2 21 17 20 (.build [(.int .i64 0), (.int .i64 0)] [(0, 1), (1, 1)] [0, 1]), o1 22 21 (.bslice 2 1 (.agg [(.int .i64 0), (.int .i64 0)]) [0]), o2 23 16 22 (.app 2 16 (.agg [(.int .i64 0), (.int .i64 0)])), o1 5 23 .mv]) (.reg [o1 24 8 (.faddr false 1 1), o1 25 24 (.load false 1), c2 26 25 (.int .i64 1) (.bin .add), o1 6 26 .mv])))) (.reg [c2 27 12 (.int .i64 1) (.bin .add), o1 12 27 .mv]))))))) (.seq (.reg [o1 28 5 .mv, o1 29 6 .mv, c2 30 29 (.int .i64 1073741824) (.build [(.int .i64 0), (.int .i64 0)] [(0, 1), (1, 1)] [0, 1]), o1 31 30 (.bslice 2 1 (.agg [(.int .i64 0), (.int .i64 0)]) [0]), o2 32 28 31 (.app 2 16 (.agg [(.int .i64 0), (.int .i64 0)])), o1 5 32 .mv]) (.seq (.reg [o1 33 0 .mv, o1 34 5 .mv, k2 35 76 33 34, o1 4 35 .mv]) .ret))))))
theorem zju : z0k Try.prog 66 2 = some ⟨36, 2, [(.slot 4)], zbe⟩ := by kernel_rfl
def zbf : AC := (.seq (.reg [o1 4 0 .box, c1 8 (.bool false) .mv]) (.seq (.seq (.reg [o1 11 1 .mv, k1 12 37 11, o1 13 12 (.len false), c2 14 13 (.int .i64 0) (.bin .eql), o1 15 14 .mv, g_ 16 15 false [s_ 2] .mv, g_ 17 15 false [k_ (.fn 37 []), s_ 16] .call, g_ 18 15 false [s_ 17] (.len false), g_ 19 15 false [s_ 18, k_ (.int .i64 0)] (.bin .eql), m_ 20 [s_ 15, k_ (.bool true), s_ 19] .pick, o1 21 20 .mv, g_ 22 21 false [s_ 4] (.load true 6), g_ 23 21 false [k_ (.fn 77 []), s_ 22] .call, g_ 24 21 false [s_ 23] (.un .not), m_ 25 [s_ 21, k_ (.bool true), s_ 24] .pick]) (.cond (.slot 25) (.seq (.reg [c1 8 (.bool false) .mv]) .ret) .skip)) (.seq (.seq (.reg [o1 26 4 (.faddr false 5 1), o1 27 26 (.load false 1), o1 28 27 (.len false), c1 29 (.int .i64 0) .mv]) (.block 0 (.loop (.seq (.reg [o2 30 29 28 (.bin .lss)]) (.seq (.cond (.slot 30) .skip (.exit 0)) (.seq (.block 1 (.seq (.reg [o2 31 27 29 (.iaddr 4), o1 32 31 (.load true 4), o0 10 (.alloc (.agg [(.int .i64 0), (.int .i64 0), (.int .i64 0), (.int .i64 0)]) 4), n2 10 32 (.store 4)]) (.seq (.dreg [o1 33 10 (.load true 4), o1 34 3 .mv, k2 35 78 33 34, o1 36 35 (.un .not), o1 37 36 .mv, g_ 38 37 false [s_ 1] .mv, g_ 39 37 false [s_ 38, k_ (.int .i64 2)] (.bin .eql), g_ 40 37 false [s_ 39] .mv, g1 41 40 10 (.load true 4), g1 42 40 10 (.faddr false 0 1), g1 43 40 42 (.load false 1), g_ 44 40 true [k_ (.fn 58 []), s_ 43] .call, g2 45 40 41 44 (.eqs true [1, 1, 1, 1]), g_ 46 37 false [s_ 40, s_ 45, k_ (.bool false)] .pick, m_ 47 [s_ 37, k_ (.bool true), s_ 46] .pick]) (.cond (.slot 47) (.seq (.reg [c1 8 (.bool false) .mv]) .ret) .skip)))) (.reg [c2 48 29 (.int .i64 1) (.bin .add), o1 29 48 .mv]))))))) (.seq (.reg [o1 49 1 .mv, c2 50 49 (.int .i64 2) (.bin .neq), o1 51 50 .mv, g_ 52 51 false [s_ 4] (.faddr false 5 1), g_ 53 51 false [s_ 52] (.load false 1), g_ 54 51 false [s_ 53] (.len false), g_ 55 51 false [s_ 54, k_ (.int .i64 1)] (.bin .leq), m_ 56 [s_ 51, k_ (.bool true), s_ 55] .pick, o1 57 56 .mv, g1 58 57 2 .mv, g_ 59 57 true [s_ 58, k_ (.int .i64 2)] (.bin .neq), g1 60 57 59 .mv, g_ 61 60 false [s_ 4] (.load true 6), g_ 62 60 false [k_ (.fn 79 []), s_ 61] .call, g_ 63 57 true [s_ 60, k_ (.bool true), s_ 62] .pick, m_ 64 [s_ 57, s_ 63, k_ (.bool false)] .pick, o1 8 64 .mv]) .ret))))
theorem zjv : z0k Try.prog 67 4 = some ⟨65, 4, [(.slot 8)], zbf⟩ := by kernel_rfl
def zbg : AC := (.seq (.reg [o1 2 0 .box, c1 4 .nilS .mv, c1 5 (.bool false) .mv]) (.seq (.reg [o1 9 2 (.load true 6), o1 10 1 .mv, k2 11 80 9 10, o1 8 11 .mv, o1 12 8 (.extract 0), o1 13 8 (.extract 1), o1 6 12 .mv, o1 7 13 .mv]) (.seq (.seq (.reg [o1 14 7 .mv, o1 15 14 (.un .not)]) (.cond (.slot 15) (.seq (.reg [c1 4 .nilS .mv, c1 5 (.bool false) .mv]) .ret) .skip)) (.seq (.seq (.reg [o1 16 6 .mv, o1 17 16 (.len false), c2 18 17 (.int .i64 0) (.bin .eql)]) (.cond (.slot 18) (.seq (.reg [c1 4 .nilS .mv, c1 5 (.bool true) .mv]) .ret) .skip)) (.seq (.dreg [o1 19 2 (.load true 6), k1 20 83 19, o1 21 6 .mv, k2 22 82 20 21, o1 23 2 (.faddr false 0 1), o1 24 23 (.load false 1), k2 25 81 22 24, o1 4 25 .mv, c1 5 (.bool true) .mv]) .ret)))))
theorem zjw : z0k Try.prog 68 2 = some ⟨26, 2, [(.slot 4), (.slot 5)], zbg⟩ := by kernel_rfl
def z3m : AC := (.seq (.reg [c1 2 .nilS .mv]) (.seq (.seq (.reg [o1 3 0 .mv, c2 4 3 .nilS (.eqn false)]) (.cond (.slot 4) (.seq (.reg [c1 2 .nilS .mv]) .ret) .skip)) (.seq (.reg [o0 5 (.bslice 1 0 (.int .i64 0) []), o1 6 0 .mv, o2 7 5 6 (.app 1 8 (.int .i64 0)), o1 2 7 .mv]) .ret)))
theorem z4m : z0k Try.prog 74 1 = some ⟨8, 1, [(.slot 2)], z3m⟩ := by kernel_rfl
def zd9 : AC := (.seq (.reg [c1 2 .nilS .mv]) (.seq (.reg [o1 10 0 .mv, o1 11 10 (.len false), m_ 12 [k_ (.int .i64 0), s_ 11] (.mkSlice 2 16 (.agg [(.int .i64 0), (.int .i64 0)])), o1 3 12 .mv]) (.seq (.seq (.reg [o1 13 0 .mv, o1 14 13 (.len false), c1 15 (.int .i64 0) .mv]) (.block 0 (.loop (.seq (.reg [o2 16 15 14 (.bin .lss)]) (.seq (.cond (.slot 16) .skip (.exit 0)) (.seq (.block 1 (.seq (.reg [o2 17 13 15 (.iaddr 2), o1 18 17 (.load true 2), o0 5 (.alloc (.agg [(.int .i64 0), (.int .i64 0)]) 2), n2 5 18 (.store 2)]) (.seq (.reg [o1 19 5 (.faddr false 0 1), o1 20 19 (.load false 1), c2 21 20 (.int .i64 (-1073741824)) .max, o1 22 5 (.faddr false 1 1), o1 23 22 (.load false 1), c2 24 23 (.int .i64 1073741824) .min, o1 25 5 (.faddr false 0 1), n2 25 21 (.store 1), o1 26 5 (.faddr false 1 1), n2 26 24 (.store 1)]) (.seq (.reg [o1 27 5 (.faddr false 0 1), o1 28 27 (.load false 1), o1 29 5 (.faddr false 1 1), o1 30 29 (.load false 1), o2 31 28 30 (.bin .leq)]) (.cond (.slot 31) (.reg [o1 32 3 .mv, o1 33 5 (.load true 2), o1 34 33 (.bslice 2 1 (.agg [(.int .i64 0), (.int .i64 0)]) [0]), o2 35 32 34 (.app 2 16 (.agg [(.int .i64 0), (.int .i64 0)])), o1 3 35 .mv]) .skip))))) (.reg [c2 36 15 (.int .i64 1) (.bin .add), o1 15 36 .mv]))))))) (.seq (.reg [o1 37 3 .mv, m_ 38 [k_ (.fn 94 []), s_ 37, k_ (.fn 95 [])] .call]) (.seq (.reg [o1 39 3 .mv, c2 40 39 (.int .i64 0) (.slice 2 false true false), o1 6 40 .mv]) (.seq (.seq (.reg [o1 41 3 .mv, o1 42 41 (.len false), c1 43 (.int .i64 0) .mv]) (.block 2 (.loop (.seq (.reg [o2 44 43 42 (.bin .lss)]) (.seq (.cond (.slot 44) .skip (.exit 2)) (.seq (.block 3 (.seq (.reg [o2 45 41 43 (.iaddr 2), o1 46 45 (.load true 2), o0 8 (.alloc (.agg [(.int .i64 0), (.int .i64 0)]) 2), n2 8 46 (.store 2)]) (.seq (.seq (.reg [o1 47 6 .mv, o1 48 47 (.len false), o1 9 48 .mv]) (.seq (.dreg [o1 49 9 .mv, c2 50 49 (.int .i64 0) (.bin .gtr), o1 51 50 .mv, g1 52 51 8 (.faddr false 0 1), g1 53 51 52 (.load false 1), g1 54 51 6 .mv, g1 55 51 9 .mv, g_ 56 51 true [s_ 55, k_ (.int .i64 1)] (.bin .sub), g2 57 51 54 56 (.iaddr 2), g1 58 51 57 (.faddr false 1 1), g1 59 51 58 (.load false 1), g_ 60 51 true [s_ 59, k_ (.int .i64 1)] (.bin .add), g2 61 51 53 60 (.bin .leq), m_ 62 [s_ 51, s_ 61, k_ (.bool false)] .pick]) (.cond (.slot 62) (.seq (.dtl [o1 63 6 .mv, o1 64 9 .mv, c2 65 64 (.int .i64 1) (.bin .sub), o1 66 6 .mv, o1 67 9 .mv, c2 68 67 (.int .i64 1) (.bin .sub), o2 69 66 68 (.iaddr 2), o1 70 69 (.faddr false 1 1), o1 71 70 (.load false 1), o1 72 8 (.faddr false 1 1), o1 73 72 (.load false 1), o2 74 71 73 .max, o2 75 63 65 (.iaddr 2), o1 76 75 (.faddr false 1 1)] [n2 76 74 (.store 1)]) (.exit 3)) .skip))) (.reg [o1 77 6 .mv, o1 78 8 (.load true 2), o1 79 78 (.bslice 2 1 (.agg [(.int .i64 0), (.int .i64 0)]) [0]), o2 80 77 79 (.app 2 16 (.agg [(.int .i64 0), (.int .i64 0)])), o1 6 80 .mv])))) (.reg [c2 81 43 (.int .i64 1) (.bin .add), o1 43 81 .mv]))))))) (.seq (.reg [o1 82 6 .mv, o1 2 82 .mv]) .ret)))))))
theorem zlx : z0k Try.prog 75 1 = some ⟨83, 1, [(.slot 2)], zd9⟩ := by kernel_rfl
def zda : AC := (.seq (.reg [c1 4 .nilS .mv]) (.seq (.reg [o1 7 0 .mv, k1 8 75 7, o1 9 1 .mv, k1 10 75 9, o1 0 8 .mv, o1 1 10 .mv]) (.seq (.reg [c1 5 .nilS .mv]) (.seq (.block 0 (.loop (.seq (.seq (.reg [o1 11 0 .mv, o1 12 11 (.len false), c2 13 12 (.int .i64 0) (.bin .gtr), o1 14 13 .mv, g1 15 14 1 .mv, g1 16 14 15 (.len false), g_ 17 14 true [s_ 16, k_ (.int .i64 0)] (.bin .gtr), m_ 18 [s_ 14, s_ 17, k_ (.bool false)] .pick]) (.cond (.slot 18) .skip (.exit 0))) (.block 1 (.seq (.greg [o1 19 0 .mv, c2 20 19 (.int .i64 0) (.iaddr 2), o1 21 20 (.faddr false 0 1), o1 22 21 (.load false 1), o1 23 1 .mv, c2 24 23 (.int .i64 0) (.iaddr 2), o1 25 24 (.faddr false 0 1), o1 26 25 (.load false 1), o2 27 22 26 .max, o1 28 0 .mv, c2 29 28 (.int .i64 0) (.iaddr 2), o1 30 29 (.faddr false 1 1), o1 31 30 (.load false 1), o1 32 1 .mv, c2 33 32 (.int .i64 0) (.iaddr 2), o1 34 33 (.faddr false 1 1), o1 35 34 (.load false 1), o2 36 31 35 .min, o2 37 27 36 (.build [(.int .i64 0), (.int .i64 0)] [(0, 1), (1, 1)] [0, 1]), o0 6 (.alloc (.agg [(.int .i64 0), (.int .i64 0)]) 2), n2 6 37 (.store 2)]) (.seq (.seq (.reg [o1 38 6 (.faddr false 0 1), o1 39 38 (.load false 1), o1 40 6 (.faddr false 1 1), o1 41 40 (.load false 1), o2 42 39 41 (.bin .leq)]) (.cond (.slot 42) (.reg [o1 43 5 .mv, o1 44 6 (.load true 2), o1 45 44 (.bslice 2 1 (.agg [(.int .i64 0), (.int .i64 0)]) [0]), o2 46 43 45 (.app 2 16 (.agg [(.int .i64 0), (.int .i64 0)])), o1 5 46 .mv]) .skip)) (.seq (.dreg [o1 47 0 .mv, c2 48 47 (.int .i64 0) (.iaddr 2), o1 49 48 (.faddr false 1 1), o1 50 49 (.load false 1), o1 51 1 .mv, c2 52 51 (.int .i64 0) (.iaddr 2), o1 53 52 (.faddr false 1 1), o1 54 53 (.load false 1), o2 55 50 54 (.bin .lss)]) (.cond (.slot 55) (.reg [o1 56 0 .mv, c2 57 56 (.int .i64 1) (.slice 2 true false false), o1 0 57 .mv]) (.reg [o1 58 1 .mv, c2 59 58 (.int .i64 1) (.slice 2 true false false), o1 1 59 .mv]))))))))) (.seq (.reg [o1 60 5 .mv, o1 4 60 .mv]) .ret)))))
theorem zly : z0k Try.prog 76 2 = some ⟨61, 2, [(.slot 4)], zda⟩ := by kernel_rfl
def z8h : AC := (.seq (.reg [o1 1 0 .box, c1 2 (.bool false) .mv]) (.seq (.reg [o1 3 1 (.faddr false 0 1), o1 4 3 (.load false 1), k1 5 97 4, o1 6 5 .mv, g1 7 6 1 (.faddr false 4 1), g1 8 6 7 (.load false 1), g_ 9 6 true [k_ (.fn 97 []), s_ 8] .call, m_ 10 [s_ 6, s_ 9, k_ (.bool false)] .pick, o1 11 10 .mv, g1 12 11 1 (.load true 6), g_ 13 11 true [k_ (.fn 83 []), s_ 12] .call, g_ 14 11 true [k_ (.fn 78 []), s_ 13, k_ (.int .i64 1)] .call, m_ 15 [s_ 11, s_ 14, k_ (.bool false)] .pick, o1 16 15 .mv, g1 17 16 1 (.faddr false 5 1), g1 18 16 17 (.load false 1), g_ 19 16 true [k_ (.fn 98 []), s_ 18] .call, m_ 20 [s_ 16, s_ 19, k_ (.bool false)] .pick, o1 2 20 .mv]) .ret))
theorem zen : z0k Try.prog 77 1 = some ⟨21, 1, [(.slot 2)], z8h⟩ := by kernel_rfl
def zbh : AC := (.seq (.reg [o1 2 0 .box, c1 4 (.bool false) .mv]) (.seq (.reg [o1 5 2 (.faddr false 0 1), o1 6 5 (.load false 1), c2 7 6 (.int .i64 0) (.bin .geq), o1 8 7 .mv, g1 9 8 2 (.faddr false 0 1), g1 10 8 9 (.load false 1), g1 11 8 1 .mv, g2 12 8 10 11 (.bin .lss), m_ 13 [s_ 8, s_ 12, k_ (.bool false)] .pick, o1 14 13 .mv, g1 15 14 2 (.load true 4), g_ 16 14 true [k_ (.fn 99 []), s_ 15] .call, m_ 17 [s_ 14, s_ 16, k_ (.bool false)] .pick, o1 4 17 .mv]) .ret))
theorem zjx : z0k Try.prog 78 2 = some ⟨18, 2, [(.slot 4)], zbh⟩ := by kernel_rfl
def zbi : AC := (.seq (.reg [o1 1 0 .box, c1 2 (.bool false) .mv]) (.seq (.reg [o1 3 1 (.faddr false 0 1), o1 4 3 (.load false 1), c2 5 4 (.int .i64 0) (.bin .eql), o1 6 5 .mv, g1 7 6 1 (.load true 6), g_ 8 6 true [k_ (.fn 83 []), s_ 7] .call, g_ 9 6 true [k_ (.fn 58 []), k_ (.int .i64 0)] .call, g2 10 6 8 9 (.eqs false [1, 1, 1, 1]), m_ 11 [s_ 6, s_ 10, k_ (.bool false)] .pick, o1 2 11 .mv]) .ret))
theorem zjy : z0k Try.prog 79 1 = some ⟨12, 1, [(.slot 2)], zbi⟩ := by kernel_rfl
def zbj : AC := (.seq (.reg [o1 2 0 .box, c1 4 .nilS .mv, c1 5 (.bool false) .mv]) (.seq (.seq (.reg [o1 12 1 .mv, o1 13 12 (.len false), c2 14 13 (.int .i64 4) (.bin .gtr), o1 15 14 .mv, g_ 16 15 false [s_ 2] (.load true 6), g_ 17 15 false [k_ (.fn 77 []), s_ 16] .call, g_ 18 15 false [s_ 17] (.un .not), m_ 19 [s_ 15, k_ (.bool true), s_ 18] .pick]) (.cond (.slot 19) (.seq (.reg [c1 4 .nilS .mv, c1 5 (.bool false) .mv]) .ret) .skip)) (.seq (.reg [c1 6 (.bool true) .mv]) (.seq (.reg [o1 20 1 .mv, o1 21 20 (.len false), o2 22 21 21 (.mkSlice 1 24 .nilS), o1 7 22 .mv]) (.seq (.seq (.reg [o1 23 1 .mv, o1 24 23 (.len false), c1 25 (.int .i64 0) .mv]) (.block 0 (.loop (.seq (.reg [o2 26 25 24 (.bin .lss)]) (.seq (.cond (.slot 26) .skip (.exit 0)) (.seq (.block 1 (.seq (.reg [o1 27 25 .mv, o2 28 23 25 (.iaddr 1), o1 29 28 (.load false 1), o1 8 27 .mv, o1 9 29 .mv]) (.seq (.reg [o1 30 7 .mv, o1 31 8 .mv, o1 32 9 .mv, k0 33 100, k2 34 76 32 33, o2 35 30 31 (.iaddr 1), n2 35 34 (.store 1)]) (.reg [o1 36 6 .mv, o1 37 36 .mv, g1 38 37 7 .mv, g1 39 37 8 .mv, g2 40 37 38 39 (.iaddr 1), g1 41 37 40 (.load false 1), g1 42 37 41 (.len false), g_ 43 37 true [s_ 42, k_ (.int .i64 0)] (.bin .gtr), m_ 44 [s_ 37, s_ 43, k_ (.bool false)] .pick, o1 6 44 .mv])))) (.reg [c2 45 25 (.int .i64 1) (.bin .add), o1 25 45 .mv]))))))) (.seq (.seq (.reg [o1 46 2 (.faddr false 5 1), o1 47 46 (.load false 1), o1 48 47 (.len false), c1 49 (.int .i64 0) .mv]) (.block 2 (.loop (.seq (.reg [o2 50 49 48 (.bin .lss)]) (.seq (.cond (.slot 50) .skip (.exit 2)) (.seq (.block 3 (.seq (.reg [o2 51 47 49 (.iaddr 4), o1 52 51 (.load true 4), o0 11 (.alloc (.agg [(.int .i64 0), (.int .i64 0), (.int .i64 0), (.int .i64 0)]) 4), n2 11 52 (.store 4)]) (.seq (.reg [o1 53 11 (.load true 4), o1 54 1 .mv, o1 55 54 (.len false), k2 56 78 53 55, o1 57 56 (.un .not)]) (.cond (.slot 57) (.seq (.reg [c1 4 .nilS .mv, c1 5 (.bool false) .mv]) .ret) .skip)))) (.reg [c2 58 49 (.int .i64 1) (.bin .add), o1 49 58 .mv]))))))) (.seq (.seq (.reg [o1 59 6 .mv, o1 60 59 (.un .not)]) (.cond (.slot 60) (.seq (.reg [c1 4 .nilS .mv, c1 5 (.bool true) .mv]) .ret) .skip)) (.seq (.reg [o1 61 2 (.load true 6), o1 62 7 .mv, k2 63 101 61 62, o1 64 63 (.extract 0), o1 65 63 (.extract 1), o1 4 64 .mv, o1 5 65 .mv]) .ret))))))))
theorem zjz : z0k Try.prog 80 2 = some ⟨66, 2, [(.slot 4), (.slot 5)], zbj⟩ := by kernel_rfl
def zdb : AC := (.seq (.reg [c1 4 .nilS .mv]) (.seq (.seq (.reg [o1 7 1 .mv, c2 8 7 (.int .i64 (-2147483648)) (.bin .lss), o1 9 8 .mv, g_ 10 9 false [s_ 1] .mv, g_ 11 9 false [s_ 10, k_ (.int .i64 2147483648)] (.bin .gtr), m_ 12 [s_ 9, k_ (.bool true), s_ 11] .pick]) (.cond (.slot 12) (.seq (.reg [c1 4 .nilS .mv]) .ret) .skip)) (.seq (.reg [o1 13 0 .mv, k1 14 75 13, o1 5 14 .mv]) (.seq (.seq (.reg [o1 15 5 .mv, o1 16 15 (.len false), c1 17 (.int .i64 0) .mv]) (.block 0 (.loop (.seq (.reg [o2 18 17 16 (.bin .lss)]) (.seq (.cond (.slot 18) .skip (.exit 0)) (.seq (.block 1 (.seq (.reg [o1 19 17 .mv, o1 6 19 .mv]) (.seq (.reg [o1 20 5 .mv, o1 21 6 .mv, o2 22 20 21 (.iaddr 2), o1 23 22 (.faddr false 0 1), o1 24 23 (.load false 1), o1 25 1 .mv, o2 26 24 25 (.bin .add), o2 27 20 21 (.iaddr 2), o1 28 27 (.faddr false 0 1), n2 28 26 (.store 1)]) (.reg [o1 29 5 .mv, o1 30 6 .mv, o2 31 29 30 (.iaddr 2), o1 32 31 (.faddr false 1 1), o1 33 32 (.load false 1), o1 34 1 .mv, o2 35 33 34 (.bin .add), o2 36 29 30 (.iaddr 2), o1 37 36 (.faddr false 1 1), n2 37 35 (.store 1)])))) (.reg [c2 38 17 (.int .i64 1) (.bin .add), o1 17 38 .mv]))))))) (.seq (.reg [o1 39 5 .mv, k1 40 75 39, o1 4 40 .mv]) .ret)))))
theorem zlz : z0k Try.prog 81 2 = some ⟨41, 2, [(.slot 4)], zdb⟩ := by kernel_rfl
def z7d : AC := (.seq (.reg [o1 2 0 .box, c1 4 .nilS .mv]) (.seq (.seq (.reg [o1 13 2 (.load true 4), k1 14 99 13, o1 15 14 (.un .not)]) (.cond (.slot 15) (.seq (.reg [c1 4 .nilS .mv]) .ret) .skip)) (.seq (.reg [o1 16 2 (.faddr false 2 1), o1 17 16 (.load false 1), m_ 18 [k_ (.int .i64 1), s_ 17] (.bin .shl), c2 19 18 (.int .i64 1) (.bin .sub), o1 5 19 .mv]) (.seq (.reg [c1 6 .nilS .mv]) (.seq (.seq (.reg [o1 20 1 .mv, m_ 21 [k_ (.int .i64 0), k_ (.int .i64 2097151)] (.build [(.int .i64 0), (.int .i64 0)] [(0, 1), (1, 1)] [0, 1]), o1 22 21 (.bslice 2 1 (.agg [(.int .i64 0), (.int .i64 0)]) [0]), k2 23 76 20 22, o1 24 23 (.len false), c1 25 (.int .i64 0) .mv]) (.block 0 (.loop (.seq (.reg [o2 26 25 24 (.bin .lss)]) (.seq (.cond (.slot 26) .skip (.exit 0)) (.seq (.block 1 (.seq (.reg [o2 27 23 25 (.iaddr 2), o1 28 27 (.load true 2), o0 8 (.alloc (.agg [(.int .i64 0), (.int .i64 0)]) 2), n2 8 28 (.store 2)]) (.seq (.dreg [o1 29 8 (.faddr false 0 1), o1 30 29 (.load false 1), o1 31 2 (.faddr false 1 1), o1 32 31 (.load false 1), o2 33 30 32 (.bin .shr), o1 34 8 (.faddr false 1 1), o1 35 34 (.load false 1), o1 36 2 (.faddr false 1 1), o1 37 36 (.load false 1), o2 38 35 37 (.bin .shr), o1 9 33 .mv, o1 10 38 .mv]) (.seq (.seq (.reg [o1 39 10 .mv, o1 40 9 .mv, o2 41 39 40 (.bin .sub), o1 42 5 .mv, o2 43 41 42 (.bin .geq)]) (.cond (.slot 43) (.seq (.reg [o1 44 5 .mv, m_ 45 [k_ (.int .i64 0), s_ 44] (.build [(.int .i64 0), (.int .i64 0)] [(0, 1), (1, 1)] [0, 1]), o1 46 45 (.bslice 2 1 (.agg [(.int .i64 0), (.int .i64 0)]) [0]), o1 6 46 .mv]) (.exit 0)) .skip)) (.seq (.reg [o1 47 9 .mv, o1 48 5 .mv, o2 49 47 48 (.bin .and), o1 50 10 .mv, o1 51 5 .mv, o2 52 50 51 (.bin .and), o2 53 49 52 (.bin .leq)]) (.cond (.slot 53) (.reg [o1 54 6 .mv, o1 55 9 .mv, o1 56 5 .mv, o2 57 55 56 (.bin .and), o1 58 10 .mv, o1 59 5 .mv, o2 60 58 59 (.bin .and), o2 61 57 60 (.build [(.int .i64 0), (.int .i64 0)] [(0, 1), (1, 1)] [0, 1]), o1 62 61 (.bslice 2 1 (.agg [(.int .i64 0), (.int .i64 0)]) [0]), o2 63 54 62 (.app 2 16 (.agg [(.int .i64 0), (.int .i64 0)])), o1 6 63 .mv]) (.reg [o1 64 6 .mv, o1 65 10 .mv, o1 66 5 .mv, o2 67 65 66 (.bin .and), m_ 68 [k_ (.int .i64 0), s_ 67] (.build [(.int .i64 0), (.int .i64 0)] [(0, 1), (1, 1)] [0, 1]), o1 69 9 .mv, o1 70 5 .mv, o2 71 69 70 (.bin .and), o1 72 5 .mv, o2 73 71 72 (.build [(.int .i64 0), (.int .i64 0)] [(0, 1), (1, 1)] [0, 1]), o2 74 68 73 (.bslice 2 2 (.agg [(.int .i64 0), (.int .i64 0)]) [0, 1]), o2 75 64 74 (.app 2 16 (.agg [(.int .i64 0), (.int .i64 0)])), o1 6 75 .mv]))))))) (.reg [c2 76 25 (.int .i64 1) (.bin .add), o1 25 76 .mv]))))))) (.seq (.reg [o1 77 6 .mv, k1 78 75 77, o1 6 78 .mv]) (.seq (.seq (.reg [o1 79 2 (.faddr false 3 1), o1 80 79 (.load false 1), c2 81 80 (.int .i64 0) (.bin .eql)]) (.cond (.slot 81) (.seq (.reg [o1 82 6 .mv, o1 4 82 .mv]) .ret) .skip)) (.seq (.reg [o0 11 (.alloc .nilS 1)]) (.seq (.seq (.reg [o1 83 6 .mv, k1 84 102 83]) (.block 2 (.rng (.slot 84) [85] (.reg [o1 12 85 .mv]) (.block 3 (.dtl [o1 86 11 (.load false 1), o1 87 12 .mv, o1 88 2 (.faddr false 3 1), o1 89 88 (.load false 1), o2 90 87 89 (.bin .shl), o1 91 12 .mv, o1 92 2 (.faddr false 3 1), o1 93 92 (.load false 1), o2 94 91 93 (.bin .shl), o2 95 90 94 (.build [(.int .i64 0), (.int .i64 0)] [(0, 1), (1, 1)] [0, 1]), o1 96 95 (.bslice 2 1 (.agg [(.int .i64 0), (.int .i64 0)]) [0])] [o2 97 86 96 (.app 2 16 (.agg [(.int .i64 0), (.int .i64 0)])), n2 11 97 (.store 1)]))))) (.seq (.reg [o1 98 11 (.load false 1), k1 99 75 98, o1 4 99 .mv]) .ret))))))))))
theorem zbk : z0k Try.prog 82 2 = some ⟨100, 2, [(.slot 4)], z7d⟩ := by kernel_rfl
def zbl : AC := (.seq (.reg [o1 1 0 .box, o0 2 (.alloc (.agg [(.int .i64 0), (.int .i64 0), (.int .i64 0), (.int .i64 0)]) 4)]) (.seq (.reg [o1 3 1 (.faddr false 1 1), o1 4 3 (.load false 1), o1 5 1 (.faddr false 2 1), o1 6 5 (.load false 1), o1 7 1 (.faddr false 3 1), o1 8 7 (.load false 1), o3 9 4 6 8 (.build [(.int .i64 0), (.int .i64 0), (.int .i64 0), (.int .i64 0)] [(0, 1), (1, 1), (2, 1), (3, 1)] [1, 2, 3]), n2 2 9 (.store 4)]) .ret))
theorem zk0 : z0k Try.prog 83 1 = some ⟨10, 1, [(.cell 2 true 4)], zbl⟩ := by kernel_rfl
def z2w : AC := (.seq (.reg [o1 5 0 .mv, o1 6 5 (.len false), o1 4 6 .mv]) (.reg [o1 7 0 .mv, o1 8 4 .mv, o1 9 4 .mv, o1 10 9 (.conv .u64), k1 11 107 10, o1 12 1 .mv, m_ 13 [k_ (.fn 106 []), s_ 7, k_ (.int .i64 0), s_ 8, s_ 11, s_ 12] .call]))
theorem z48 : z0k Try.prog 94 2 = some ⟨14, 2, [], z2w⟩ := by kernel_rfl
def zbm : AC := (.seq (.reg [c1 2 (.bool false) .mv]) (.seq (.reg [o1 3 0 .mv, c2 4 3 (.int .i64 (-1114111)) (.bin .geq), o1 5 4 .mv, g1 6 5 0 .mv, g_ 7 5 true [s_ 6, k_ (.int .i64 1114111)] (.bin .leq), m_ 8 [s_ 5, s_ 7, k_ (.bool false)] .pick, o1 2 8 .mv]) .ret))
theorem zk1 : z0k Try.prog 97 1 = some ⟨9, 1, [(.slot 2)], zbm⟩ := by kernel_rfl
def z9t : AC := (.seq (.reg [c1 2 (.bool false) .mv]) (.seq (.seq (.reg [o1 5 0 .mv, o1 6 5 (.len false), c1 7 (.int .i64 0) .mv]) (.block 0 (.loop (.seq (.reg [o2 8 7 6 (.bin .lss)]) (.seq (.cond (.slot 8) .skip (.exit 0)) (.seq (.block 1 (.seq (.reg [o1 9 7 .mv, o2 10 5 7 (.iaddr 4), o1 11 10 (.load true 4), o0 4 (.alloc (.agg [(.int .i64 0), (.int .i64 0), (.int .i64 0), (.int .i64 0)]) 4), o1 3 9 .mv, n2 4 11 (.store 4)]) (.seq (.dreg [o1 12 3 .mv, c2 13 12 (.int .i64 0) (.bin .gtr), o1 14 13 .mv, g1 15 14 4 (.faddr false 3 1), g1 16 14 15 (.load false 1), g1 17 14 0 .mv, g1 18 14 3 .mv, g_ 19 14 true [s_ 18, k_ (.int .i64 1)] (.bin .sub), g2 20 14 17 19 (.iaddr 4), g1 21 14 20 (.faddr false 3 1), g1 22 14 21 (.load false 1), g2 23 14 16 22 (.bin .leq), m_ 24 [s_ 14, s_ 23, k_ (.bool false)] .pick]) (.cond (.slot 24) (.seq (.reg [c1 2 (.bool false) .mv]) .ret) .skip)))) (.reg [c2 25 7 (.int .i64 1) (.bin .add), o1 7 25 .mv]))))))) (.seq (.reg [o1 26 0 .mv, o1 27 26 (.len false), c2 28 27 (.int .i64 4) (.bin .leq), o1 2 28 .mv]) .ret)))
theorem zhf : z0k Try.prog 98 1 = some ⟨29, 1, [(.slot 2)], z9t⟩ := by kernel_rfl
def zdc : AC := (.seq (.reg [o1 1 0 .box, c1 2 (.bool false) .mv]) (.seq (.reg [o1 3 1 (.faddr false 1 1), o1 4 3 (.load false 1), c2 5 4 (.int .i64 0) (.bin .geq), o1 6 5 .mv, g1 7 6 1 (.faddr false 1 1), g1 8 6 7 (.load false 1), g_ 9 6 true [s_ 8, k_ (.int .i64 21)] (.bin .lss), m_ 10 [s_ 6, s_ 9, k_ (.bool false)] .pick, o1 11 10 .mv, g1 12 11 1 (.faddr false 2 1), g1 13 11 12 (.load false 1), g_ 14 11 true [s_ 13, k_ (.int .i64 1)] (.bin .geq), m_ 15 [s_ 11, s_ 14, k_ (.bool false)] .pick, o1 16 15 .mv, g1 17 16 1 (.faddr false 2 1), g1 18 16 17 (.load false 1), g_ 19 16 true [s_ 18, k_ (.int .i64 21)] (.bin .leq), m_ 20 [s_ 16, s_ 19, k_ (.bool false)] .pick, o1 21 20 .mv, g1 22 21 1 (.faddr false 3 1), g1 23 21 22 (.load false 1), g_ 24 21 true [s_ 23, k_ (.int .i64 0)] (.bin .geq), m_ 25 [s_ 21, s_ 24, k_ (.bool false)] .pick, o1 26 25 .mv, g1 27 26 1 (.faddr false 3 1), g1 28 26 27 (.load false 1), g_ 29 26 true [s_ 28, k_ (.int .i64 21)] (.bin .lss), m_ 30 [s_ 26, s_ 29, k_ (.bool false)] .pick, o1 31 30 .mv, g1 32 31 1 (.faddr false 3 1), g1 33 31 32 (.load false 1), g_ 34 31 true [s_ 33, k_ (.int .i64 0)] (.bin .eql), g1 35 31 34 .mv, g_ 36 35 false [s_ 1] (.faddr false 2 1), g_ 37 35 false [s_ 36] (.load false 1), g_ 38 35 false [s_ 37, k_ (.int .i64 6)] (.bin .leq), g_ 39 31 true [s_ 35, k_ (.bool true), s_ 38] .pick, m_ 40 [s_ 31, s_ 39, k_ (.bool false)] .pick, o1 2 40 .mv]) .ret))
theorem zm0 : z0k Try.prog 99 1 = some ⟨41, 1, [(.slot 2)], zdc⟩ := by kernel_rfl
def z8i : AC := (.seq (.reg [c1 0 .nilS .mv]) (.seq (.reg [m_ 1 [k_ (.int .i64 0), k_ (.int .i64 1114111)] (.build [(.int .i64 0), (.int .i64 0)] [(0, 1), (1, 1)] [0, 1]), o1 2 1 (.bslice 2 1 (.agg [(.int .i64 0), (.int .i64 0)]) [0]), o1 0 2 .mv]) .ret))
theorem zeo : z0k Try.prog 100 0 = some ⟨3, 0, [(.slot 0)], z8i⟩ := by kernel_rfl
end Go.Proofs.Yticodgjinajkpaa
set_option maxRecDepth 100000
namespace Go.Proofs.Yticodgjinajkpaa
open Abs
def z0g : AC := (.seq (.reg [o1 2 0 .box, c1 4 .nilS .mv, c1 5 (.bool false) .mv]) (.seq (.reg [o0 17 .mkMap, o1 6 17 .mv]) (.seq (.reg [c1 7 .nilS .mv]) (.seq (.seq (.reg [o1 18 2 (.faddr false 5 1), o1 19 18 (.load false 1), o1 20 19 (.len false), c1 21 (.int .i64 0) .mv]) (.block 0 (.loop (.seq (.reg [o2 22 21 20 (.bin .lss)]) (.seq (.cond (.slot 22) .skip (.exit 0)) (.seq (.block 1 (.seq (.reg [o2 23 19 21 (.iaddr 4), o1 24 23 (.load true 4), o0 9 (.alloc (.agg [(.int .i64 0), (.int .i64 0), (.int .i64 0), (.int .i64 0)]) 4), n2 9 24 (.store 4)]) (.seq (.seq (.reg [o1 25 6 .mv, o1 26 9 (.faddr false 0 1), o1 27 26 (.load false 1), o2 28 25 27 (.mapGet .nilS), o1 29 28 (.len false), c2 30 29 (.int .i64 0) (.bin .eql)]) (.cond (.slot 30) (.reg [o1 31 7 .mv, o1 32 9 (.faddr false 0 1), o1 33 32 (.load false 1), o1 34 33 (.bslice 1 1 (.int .i64 0) [0]), o2 35 31 34 (.app 1 8 (.int .i64 0)), o1 7 35 .mv]) .skip)) (.grx [false, true, true, false, true, true, false, true, false, false, false] [m_ 36 [s_ 6] .mv, m_ 37 [s_ 9] (.faddr false 0 1), m_ 38 [s_ 37] (.load false 1), m_ 39 [s_ 6] .mv, m_ 40 [s_ 9] (.faddr false 0 1), m_ 41 [s_ 40] (.load false 1), m_ 42 [s_ 39, s_ 41] (.mapGet .nilS), m_ 43 [s_ 9] (.load true 4), m_ 44 [s_ 43] (.bslice 4 1 (.agg [(.int .i64 0), (.int .i64 0), (.int .i64 0), (.int .i64 0)]) [0]), m_ 45 [s_ 42, s_ 44] (.app 4 32 (.agg [(.int .i64 0), (.int .i64 0), (.int .i64 0), (.int .i64 0)])), h_ [s_ 36, s_ 38, s_ 45] .mapSet])))) (.reg [c2 46 21 (.int .i64 1) (.bin .add), o1 21 46 .mv]))))))) (.seq (.reg [o1 47 2 (.faddr false 4 1), o1 48 47 (.load false 1), o1 49 2 (.faddr false 4 1), o1 50 49 (.load false 1), o2 51 48 50 (.build [(.int .i64 0), (.int .i64 0)] [(0, 1), (1, 1)] [0, 1]), o1 52 51 (.bslice 2 1 (.agg [(.int .i64 0), (.int .i64 0)]) [0]), o1 10 52 .mv]) (.seq (.seq (.reg [o1 53 7 .mv, o1 54 53 (.len false), c1 55 (.int .i64 0) .mv]) (.block 2 (.loop (.seq (.reg [o2 56 55 54 (.bin .lss)]) (.seq (.cond (.slot 56) .skip (.exit 2)) (.seq (.block 3 (.seq (.reg [o2 57 53 55 (.iaddr 1), o1 58 57 (.load false 1), o1 12 58 .mv]) (.dreg [o1 59 10 .mv, o1 60 6 .mv, o1 61 12 .mv, o2 62 60 61 (.mapGet .nilS), o1 63 1 .mv, o1 64 12 .mv, o2 65 63 64 (.iaddr 1), o1 66 65 (.load false 1), k2 67 110 62 66, k2 68 109 59 67, o1 10 68 .mv]))) (.reg [c2 69 55 (.int .i64 1) (.bin .add), o1 55 69 .mv]))))))) (.seq (.reg [o1 71 10 .mv, k1 72 111 71, o1 70 72 .mv, o1 73 70 (.extract 0), o1 74 70 (.extract 1), o1 13 73 .mv, o1 14 74 .mv]) (.seq (.reg [o1 76 10 .mv, k1 77 112 76, o1 75 77 .mv, o1 78 75 (.extract 0), o1 79 75 (.extract 1), o1 15 78 .mv, o1 16 79 .mv]) (.seq (.reg [o1 80 10 .mv, o1 81 10 .mv, o1 82 81 (.len false), c2 83 82 (.int .i64 0) (.bin .gtr), o1 84 83 .mv, g1 85 84 13 .mv, g_ 86 84 true [s_ 85, k_ (.int .i64 0)] (.bin .geq), m_ 87 [s_ 84, s_ 86, k_ (.bool false)] .pick, o1 88 87 .mv, g1 89 88 15 .mv, g_ 90 88 true [s_ 89, k_ (.int .i64 1114111)] (.bin .leq), m_ 91 [s_ 88, s_ 90, k_ (.bool false)] .pick, o1 4 80 .mv, o1 5 91 .mv]) .ret)))))))))
theorem z0j : z0k Try.prog 101 2 = some ⟨92, 2, [(.slot 4), (.slot 5)], z0g⟩ := by kernel_rfl
def zdd : AC := (.seq (.reg [c1 2 .nilF .mv]) (.seq (.reg [o1 4 0 .mv, k1 5 75 4, o0 3 (.alloc .nilS 1), n2 3 5 (.store 1)]) (.seq (.reg [o1 6 3 (.mkFunc 113), o1 2 6 .mv]) .ret)))
theorem zm1 : z0k Try.prog 102 1 = some ⟨7, 1, [(.slot 2)], zdd⟩ := by kernel_rfl
def z3a : AC := (.seq (.reg [c1 10 (.bool true) .mv]) (.seq (.reg [c1 11 (.bool true) .mv]) (.block 0 (.loop (.block 1 (.seq (.reg [o1 21 2 .mv, o1 22 1 .mv, o2 23 21 22 (.bin .sub), o1 12 23 .mv]) (.seq (.seq (.reg [o1 24 12 .mv, c2 25 24 (.int .i64 12) (.bin .leq)]) (.cond (.slot 25) (.seq (.reg [o1 26 0 .mv, o1 27 1 .mv, o1 28 2 .mv, o1 29 4 .mv, m_ 30 [k_ (.fn 114 []), s_ 26, s_ 27, s_ 28, s_ 29] .call]) .ret) .skip)) (.seq (.seq (.reg [o1 31 3 .mv, c2 32 31 (.int .i64 0) (.bin .eql)]) (.cond (.slot 32) (.seq (.reg [o1 33 0 .mv, o1 34 1 .mv, o1 35 2 .mv, o1 36 4 .mv, m_ 37 [k_ (.fn 115 []), s_ 33, s_ 34, s_ 35, s_ 36] .call]) .ret) .skip)) (.seq (.seq (.reg [o1 38 10 .mv, o1 39 38 (.un .not)]) (.cond (.slot 39) (.seq (.reg [o1 40 0 .mv, o1 41 1 .mv, o1 42 2 .mv, o1 43 4 .mv, m_ 44 [k_ (.fn 116 []), s_ 40, s_ 41, s_ 42, s_ 43] .call]) (.reg [o1 45 3 .mv, c2 46 45 (.int .i64 1) (.bin .sub), o1 3 46 .mv])) .skip)) (.seq (.reg [o1 48 0 .mv, o1 49 1 .mv, o1 50 2 .mv, o1 51 4 .mv, m_ 52 [k_ (.fn 117 []), s_ 48, s_ 49, s_ 50, s_ 51] .call, o1 47 52 .mv, o1 53 47 (.extract 0), o1 54 47 (.extract 1), o1 13 53 .mv, o1 14 54 .mv]) (.seq (.seq (.reg [o1 55 14 .mv, c2 56 55 (.int .i64 2) (.bin .eql)]) (.cond (.slot 56) (.seq (.reg [o1 57 0 .mv, o1 58 1 .mv, o1 59 2 .mv, o1 60 4 .mv, m_ 61 [k_ (.fn 118 []), s_ 57, s_ 58, s_ 59, s_ 60] .call]) (.seq (.reg [o1 62 2 .mv, c2 63 62 (.int .i64 1) (.bin .sub), o1 64 13 .mv, o1 65 1 .mv, o2 66 64 65 (.bin .sub), o2 67 63 66 (.bin .sub), o1 13 67 .mv]) (.reg [c1 14 (.int .i64 1) .mv]))) .skip)) (.seq (.seq (.reg [o1 68 10 .mv, o1 69 68 .mv, g1 70 69 11 .mv, m_ 71 [s_ 69, s_ 70, k_ (.bool false)] .pick, o1 72 71 .mv, g1 73 72 14 .mv, g_ 74 72 true [s_ 73, k_ (.int .i64 1)] (.bin .eql), m_ 75 [s_ 72, s_ 74, k_ (.bool false)] .pick]) (.cond (.slot 75) (.seq (.reg [o1 76 0 .mv, o1 77 1 .mv, o1 78 2 .mv, o1 79 4 .mv, m_ 80 [k_ (.fn 119 []), s_ 76, s_ 77, s_ 78, s_ 79] .call]) (.cond (.slot 80) .ret .skip)) .skip)) (.seq (.seq (.dtl [o1 81 1 .mv, c2 82 81 (.int .i64 0) (.bin .gtr), o1 83 82 .mv, g1 84 83 4 .mv, g1 85 83 0 .mv, g1 86 83 1 .mv, g_ 87 83 true [s_ 86, k_ (.int .i64 1)] (.bin .sub), g2 88 83 85 87 (.iaddr 2), g1 89 83 88 (.load true 2), g1 90 83 0 .mv, g1 91 83 13 .mv, g2 92 83 90 91 (.iaddr 2), g1 93 83 92 (.load true 2)] [g_ 94 83 true [s_ 84, s_ 89, s_ 93] .call, g_ 95 83 true [s_ 94, k_ (.int .i64 0)] (.bin .lss), g1 96 83 95 (.un .not), m_ 97 [s_ 83, s_ 96, k_ (.bool false)] .pick]) (.cond (.slot 97) (.seq (.reg [o1 98 0 .mv, o1 99 1 .mv, o1 100 2 .mv, o1 101 13 .mv, o1 102 4 .mv, m_ 103 [k_ (.fn 120 []), s_ 98, s_ 99, s_ 100, s_ 101, s_ 102] .call, o1 15 103 .mv]) (.seq (.reg [o1 104 15 .mv, o1 1 104 .mv]) (.exit 1))) .skip)) (.seq (.reg [o1 106 0 .mv, o1 107 1 .mv, o1 108 2 .mv, o1 109 13 .mv, o1 110 4 .mv, m_ 111 [k_ (.fn 121 []), s_ 106, s_ 107, s_ 108, s_ 109, s_ 110] .call, o1 105 111 .mv, o1 112 105 (.extract 0), o1 113 105 (.extract 1), o1 16 112 .mv, o1 17 113 .mv]) (.seq (.reg [o1 114 17 .mv, o1 11 114 .mv]) (.seq (.reg [o1 115 16 .mv, o1 116 1 .mv, o2 117 115 116 (.bin .sub), o1 118 2 .mv, o1 119 16 .mv, o2 120 118 119 (.bin .sub), o1 18 117 .mv, o1 19 120 .mv]) (.seq (.reg [o1 121 12 .mv, c2 122 121 (.int .i64 8) (.bin .quo), o1 20 122 .mv]) (.seq (.reg [o1 123 18 .mv, o1 124 19 .mv, o2 125 123 124 (.bin .lss)]) (.cond (.slot 125) (.seq (.reg [o1 126 18 .mv, o1 127 20 .mv, o2 128 126 127 (.bin .geq), o1 10 128 .mv]) (.seq (.reg [o1 129 0 .mv, o1 130 1 .mv, o1 131 16 .mv, o1 132 3 .mv, o1 133 4 .mv, m_ 134 [k_ (.fn 106 []), s_ 129, s_ 130, s_ 131, s_ 132, s_ 133] .call]) (.reg [o1 135 16 .mv, c2 136 135 (.int .i64 1) (.bin .add), o1 1 136 .mv]))) (.seq (.reg [o1 137 19 .mv, o1 138 20 .mv, o2 139 137 138 (.bin .geq), o1 10 139 .mv]) (.seq (.reg [o1 140 0 .mv, o1 141 16 .mv, c2 142 141 (.int .i64 1) (.bin .add), o1 143 2 .mv, o1 144 3 .mv, o1 145 4 .mv, m_ 146 [k_ (.fn 106 []), s_ 140, s_ 142, s_ 143, s_ 144, s_ 145] .call]) (.reg [o1 147 16 .mv, o1 2 147 .mv]))))))))))))))))))))))
theorem z4l : z0k Try.prog 106 5 = some ⟨148, 5, [], z3a⟩ := by kernel_rfl
def z7e : AC := (.seq (.reg [c1 2 (.int .i64 0) .mv]) (.seq (.cond (.const (.bool false)) (.seq (.reg [o1 3 0 .mv, o1 4 3 (.conv .u32), k1 5 122 4, o1 2 5 .mv]) .ret) .skip) (.seq (.reg [o1 6 0 .mv, k1 7 123 6, o1 2 7 .mv]) .ret)))
theorem zde : z0k Try.prog 107 1 = some ⟨8, 1, [(.slot 2)], z7e⟩ := by kernel_rfl
def zdf : AC := (.seq (.reg [c1 4 .nilS .mv]) (.seq (.reg [c1 5 .nilS .mv]) (.seq (.seq (.reg [o1 10 0 .mv, o1 11 10 (.len false), c1 12 (.int .i64 0) .mv]) (.block 0 (.loop (.seq (.reg [o2 13 12 11 (.bin .lss)]) (.seq (.cond (.slot 13) .skip (.exit 0)) (.seq (.block 1 (.seq (.reg [o2 14 10 12 (.iaddr 2), o1 15 14 (.load true 2), o0 7 (.alloc (.agg [(.int .i64 0), (.int .i64 0)]) 2), n2 7 15 (.store 2)]) (.seq (.seq (.reg [o1 16 1 .mv, o1 17 16 (.len false), c1 18 (.int .i64 0) .mv]) (.block 2 (.loop (.seq (.reg [o2 19 18 17 (.bin .lss)]) (.seq (.cond (.slot 19) .skip (.exit 2)) (.seq (.block 3 (.seq (.reg [o2 20 16 18 (.iaddr 2), o1 21 20 (.load true 2), o0 9 (.alloc (.agg [(.int .i64 0), (.int .i64 0)]) 2), n2 9 21 (.store 2)]) (.reg [o1 22 5 .mv, o1 23 7 (.faddr false 0 1), o1 24 23 (.load false 1), o1 25 9 (.faddr false 0 1), o1 26 25 (.load false 1), o2 27 24 26 (.bin .add), o1 28 7 (.faddr false 1 1), o1 29 28 (.load false 1), o1 30 9 (.faddr false 1 1), o1 31 30 (.load false 1), o2 32 29 31 (.bin .add), o2 33 27 32 (.build [(.int .i64 0), (.int .i64 0)] [(0, 1), (1, 1)] [0, 1]), o1 34 33 (.bslice 2 1 (.agg [(.int .i64 0), (.int .i64 0)]) [0]), o2 35 22 34 (.app 2 16 (.agg [(.int .i64 0), (.int .i64 0)])), o1 5 35 .mv]))) (.reg [c2 36 18 (.int .i64 1) (.bin .add), o1 18 36 .mv]))))))) (.seq (.reg [o1 37 5 .mv, o1 38 37 (.len false), c2 39 38 (.int .i64 65536) (.bin .gtr)]) (.cond (.slot 39) (.reg [o1 40 5 .mv, k1 41 75 40, o1 5 41 .mv]) .skip))))) (.reg [c2 42 12 (.int .i64 1) (.bin .add), o1 12 42 .mv]))))))) (.seq (.reg [o1 43 5 .mv, k1 44 75 43, o1 4 44 .mv]) .ret))))
theorem zm2 : z0k Try.prog 109 2 = some ⟨45, 2, [(.slot 4)], zdf⟩ := by kernel_rfl
def z7f : AC := (.seq (.reg [o1 2 0 .box, c1 4 .nilS .mv]) (.seq (.seq (.reg [o1 13 2 (.load false 1), o1 14 13 (.len false), c2 15 14 (.int .i64 1) (.bin .eql)]) (.cond (.slot 15) (.seq (.reg [o1 16 2 (.load false 1), c2 17 16 (.int .i64 0) (.iaddr 4), o1 18 17 (.load true 4), o1 19 1 .mv, k2 20 82 18 19, o1 4 20 .mv]) .ret) .skip)) (.seq (.reg [o0 5 (.alloc .nilS 1)]) (.seq (.seq (.reg [o1 21 1 .mv, k1 22 102 21]) (.block 0 (.rng (.slot 22) [23] (.reg [o1 6 23 .mv]) (.block 1 (.seq (.reg [c1 7 (.int .i64 0) .mv]) (.seq (.seq (.reg [o1 24 2 (.load false 1), o1 25 24 (.len false), c1 26 (.int .i64 0) .mv]) (.block 2 (.loop (.seq (.reg [o2 27 26 25 (.bin .lss)]) (.seq (.cond (.slot 27) .skip (.exit 2)) (.seq (.block 3 (.seq (.reg [o2 28 24 26 (.iaddr 4), o1 29 28 (.load true 4), o0 9 (.alloc (.agg [(.int .i64 0), (.int .i64 0), (.int .i64 0), (.int .i64 0)]) 4), n2 9 29 (.store 4)]) (.seq (.reg [o1 31 9 (.load true 4), o1 32 6 .mv, k2 33 124 31 32, o1 30 33 .mv, o1 34 30 (.extract 0), o1 35 30 (.extract 1), o1 10 34 .mv, o1 11 35 .mv]) (.reg [o1 36 7 .mv, o1 37 10 .mv, o2 38 36 37 (.bin .add), o1 7 38 .mv])))) (.reg [c2 39 26 (.int .i64 1) (.bin .add), o1 26 39 .mv]))))))) (.seq (.reg [o1 40 5 (.load false 1), o1 41 40 (.len false), o1 12 41 .mv]) (.seq (.reg [o1 42 12 .mv, c2 43 42 (.int .i64 0) (.bin .gtr), o1 44 43 .mv, g1 45 44 5 (.load false 1), g1 46 44 12 .mv, g_ 47 44 true [s_ 46, k_ (.int .i64 1)] (.bin .sub), g2 48 44 45 47 (.iaddr 2), g1 49 44 48 (.faddr false 1 1), g1 50 44 49 (.load false 1), g1 51 44 7 .mv, g_ 52 44 true [s_ 51, k_ (.int .i64 1)] (.bin .sub), g2 53 44 50 52 (.bin .eql), m_ 54 [s_ 44, s_ 53, k_ (.bool false)] .pick]) (.cond (.slot 54) (.reg [o1 55 5 (.load false 1), o1 56 12 .mv, c2 57 56 (.int .i64 1) (.bin .sub), o1 58 7 .mv, o2 59 55 57 (.iaddr 2), o1 60 59 (.faddr false 1 1), n2 60 58 (.store 1)]) (.reg [o1 61 5 (.load false 1), o1 62 7 .mv, o1 63 7 .mv, o2 64 62 63 (.build [(.int .i64 0), (.int .i64 0)] [(0, 1), (1, 1)] [0, 1]), o1 65 64 (.bslice 2 1 (.agg [(.int .i64 0), (.int .i64 0)]) [0]), o2 66 61 65 (.app 2 16 (.agg [(.int .i64 0), (.int .i64 0)])), n2 5 66 (.store 1)])))))))))) (.seq (.reg [o1 67 5 (.load false 1), k1 68 75 67, o1 4 68 .mv]) .ret)))))
theorem zdg : z0k Try.prog 110 2 = some ⟨69, 2, [(.slot 4)], z7f⟩ := by kernel_rfl
def zbn : AC := (.seq (.reg [c1 2 (.int .i64 0) .mv, c1 3 (.bool false) .mv]) (.seq (.reg [o1 5 0 .mv, k1 6 75 5, o1 4 6 .mv]) (.seq (.seq (.reg [o1 7 4 .mv, o1 8 7 (.len false), c2 9 8 (.int .i64 0) (.bin .eql)]) (.cond (.slot 9) (.seq (.reg [c1 2 (.int .i64 0) .mv, c1 3 (.bool false) .mv]) .ret) .skip)) (.seq (.reg [o1 10 4 .mv, c2 11 10 (.int .i64 0) (.iaddr 2), o1 12 11 (.faddr false 0 1), o1 13 12 (.load false 1), o1 2 13 .mv, c1 3 (.bool true) .mv]) .ret))))
theorem zk2 : z0k Try.prog 111 1 = some ⟨14, 1, [(.slot 2), (.slot 3)], zbn⟩ := by kernel_rfl
def zdh : AC := (.seq (.reg [c1 2 (.int .i64 0) .mv, c1 3 (.bool false) .mv]) (.seq (.reg [o1 5 0 .mv, k1 6 75 5, o1 4 6 .mv]) (.seq (.seq (.reg [o1 7 4 .mv, o1 8 7 (.len false), c2 9 8 (.int .i64 0) (.bin .eql)]) (.cond (.slot 9) (.seq (.reg [c1 2 (.int .i64 0) .mv, c1 3 (.bool false) .mv]) .ret) .skip)) (.seq (.reg [o1 10 4 .mv, o1 11 4 .mv, o1 12 11 (.len false), c2 13 12 (.int .i64 1) (.bin .sub), o2 14 10 13 (.iaddr 2), o1 15 14 (.faddr false 1 1), o1 16 15 (.load false 1), o1 2 16 .mv, c1 3 (.bool true) .mv]) .ret))))
theorem zm3 : z0k Try.prog 112 1 = some ⟨17, 1, [(.slot 2), (.slot 3)], zdh⟩ := by kernel_rfl
def z6r : AC := (.seq (.reg [o1 6 1 (.load false 1), o1 7 6 (.len false), c1 8 (.int .i64 0) .mv]) (.block 0 (.loop (.seq (.reg [o2 9 8 7 (.bin .lss)]) (.seq (.cond (.slot 9) .skip (.exit 0)) (.seq (.block 1 (.seq (.reg [o2 10 6 8 (.iaddr 2), o1 11 10 (.load true 2), o0 4 (.alloc (.agg [(.int .i64 0), (.int .i64 0)]) 2), n2 4 11 (.store 2)]) (.seq (.reg [o1 12 4 (.faddr false 0 1), o1 13 12 (.load false 1), o1 5 13 .mv]) (.block 2 (.loop (.seq (.seq (.reg [o1 14 5 .mv, o1 15 4 (.faddr false 1 1), o1 16 15 (.load false 1), o2 17 14 16 (.bin .leq)]) (.cond (.slot 17) .skip (.exit 2))) (.seq (.block 3 (.seq (.reg [o1 20 0 .mv, o1 21 5 .mv, o2 22 20 21 .call, o1 23 22 (.un .not)]) (.cond (.slot 23) .ret .skip))) (.reg [o1 18 5 .mv, c2 19 18 (.int .i64 1) (.bin .add), o1 5 19 .mv])))))))) (.reg [c2 24 8 (.int .i64 1) (.bin .add), o1 8 24 .mv])))))))
theorem zhg : z0k Try.prog 113 2 = some ⟨25, 2, [], z6r⟩ := by kernel_rfl
def z2h : AC := (.seq (.reg [o1 10 1 .mv, c2 11 10 (.int .i64 1) (.bin .add), o1 8 11 .mv]) (.block 0 (.loop (.seq (.seq (.reg [o1 12 8 .mv, o1 13 2 .mv, o2 14 12 13 (.bin .lss)]) (.cond (.slot 14) .skip (.exit 0))) (.seq (.block 1 (.seq (.reg [o1 17 8 .mv, o1 9 17 .mv]) (.block 2 (.loop (.seq (.seq (.dtl [o1 18 9 .mv, o1 19 1 .mv, o2 20 18 19 (.bin .gtr), o1 21 20 .mv, g1 22 21 3 .mv, g1 23 21 0 .mv, g1 24 21 9 .mv, g2 25 21 23 24 (.iaddr 2), g1 26 21 25 (.load true 2), g1 27 21 0 .mv, g1 28 21 9 .mv, g_ 29 21 true [s_ 28, k_ (.int .i64 1)] (.bin .sub), g2 30 21 27 29 (.iaddr 2), g1 31 21 30 (.load true 2)] [g_ 32 21 true [s_ 22, s_ 26, s_ 31] .call, g_ 33 21 true [s_ 32, k_ (.int .i64 0)] (.bin .lss), m_ 34 [s_ 21, s_ 33, k_ (.bool false)] .pick]) (.cond (.slot 34) .skip (.exit 2))) (.seq (.block 3 (.greg [o1 37 0 .mv, o1 38 9 .mv, o1 39 0 .mv, o1 40 9 .mv, c2 41 40 (.int .i64 1) (.bin .sub), o1 42 0 .mv, o1 43 9 .mv, c2 44 43 (.int .i64 1) (.bin .sub), o2 45 42 44 (.iaddr 2), o1 46 45 (.load true 2), o1 47 0 .mv, o1 48 9 .mv, o2 49 47 48 (.iaddr 2), o1 50 49 (.load true 2), o2 51 37 38 (.iaddr 2), n2 51 46 (.store 2), o2 52 39 41 (.iaddr 2), n2 52 50 (.store 2)])) (.reg [o1 35 9 .mv, c2 36 35 (.int .i64 1) (.bin .sub), o1 9 36 .mv]))))))) (.reg [o1 15 8 .mv, c2 16 15 (.int .i64 1) (.bin .add), o1 8 16 .mv]))))))
theorem z3x : z0k Try.prog 114 4 = some ⟨53, 4, [], z2h⟩ := by kernel_rfl
def z6b : AC := (.seq (.reg [c1 2 (.int .i64 0) .mv]) (.seq (.seq (.reg [o1 3 0 .mv, c2 4 3 (.int .u64 4294967296) (.bin .geq)]) (.cond (.slot 4) (.seq (.reg [o1 5 0 .mv, c2 6 5 (.int .u64 32) (.bin .shr), o1 0 6 .mv]) (.reg [c1 2 (.int .i64 32) .mv])) .skip)) (.seq (.seq (.reg [o1 7 0 .mv, c2 8 7 (.int .u64 65536) (.bin .geq)]) (.cond (.slot 8) (.seq (.reg [o1 9 0 .mv, c2 10 9 (.int .u64 16) (.bin .shr), o1 0 10 .mv]) (.reg [o1 11 2 .mv, c2 12 11 (.int .i64 16) (.bin .add), o1 2 12 .mv])) .skip)) (.seq (.seq (.reg [o1 13 0 .mv, c2 14 13 (.int .u64 256) (.bin .geq)]) (.cond (.slot 14) (.seq (.reg [o1 15 0 .mv, c2 16 15 (.int .u64 8) (.bin .shr), o1 0 16 .mv]) (.reg [o1 17 2 .mv, c2 18 17 (.int .i64 8) (.bin .add), o1 2 18 .mv])) .skip)) (.seq (.reg [o1 19 2 .mv, o1 20 0 .mv, o1 21 20 (.conv .u8), m_ 22 [k_ (.str [0, 1, 2, 2, 3, 3, 3, 3, 4, 4, 4, 4, 4, 4, 4, 4, 5, 5, 5, 5, 5, 5, 5, 5, 5, 5, 5, 5, 5, 5, 5, 5, 6, 6, 6, 6, 6, 6, 6, 6, 6, 6, 6, 6, 6, 6, 6, 6, 6, 6, 6, 6, 6, 6, 6, 6, 6, 6, 6, 6, 6, 6, 6, 6, 7, 7, 7, 7, 7, 7, 7, 7, 7, 7, 7, 7, 7, 7, 7, 7, 7, 7, 7, 7, 7, 7, 7, 7, 7, 7, 7, 7, 7, 7, 7, 7, 7, 7, 7, 7, 7, 7, 7, 7, 7, 7, 7, 7, 7, 7, 7, 7, 7, 7, 7, 7, 7, 7, 7, 7, 7, 7, 7, 7, 7, 7, 7, 7, 8, 8, 8, 8, 8, 8, 8, 8, 8, 8, 8, 8, 8, 8, 8, 8, 8, 8, 8, 8, 8, 8, 8, 8, 8, 8, 8, 8, 8, 8, 8, 8, 8, 8, 8, 8, 8, 8, 8, 8, 8, 8, 8, 8, 8, 8, 8, 8, 8, 8, 8, 8, 8, 8, 8, 8, 8, 8, 8, 8, 8, 8, 8, 8, 8, 8, 8, 8, 8, 8, 8, 8, 8, 8, 8, 8, 8, 8, 8, 8, 8, 8, 8, 8, 8, 8, 8, 8, 8, 8, 8, 8, 8, 8, 8, 8, 8, 8, 8, 8, 8, 8, 8, 8, 8, 8, 8, 8, 8, 8, 8, 8, 8, 8, 8, 8, 8, 8, 8, 8, 8, 8, 8, 8, 8, 8, 8, 8]), s_ 21] .indexStr, o1 23 22 (.conv .i64), o2 24 19 23 (.bin .add), o1 2 24 .mv]) .ret)))))
theorem zak : z0k Try.prog 123 1 = some ⟨25, 1, [(.slot 2)], z6b⟩ := by kernel_rfl
def zbo : AC := (.seq (.reg [o1 2 0 .box, c1 4 (.int .i64 0) .mv, c1 5 (.bool false) .mv]) (.seq (.seq (.reg [o1 6 2 (.load true 4), k1 7 99 6, o1 8 7 (.un .not), o1 9 8 .mv, g_ 10 9 false [s_ 1] .mv, g_ 11 9 false [s_ 10, k_ (.int .i64 0)] (.bin .lss), m_ 12 [s_ 9, k_ (.bool true), s_ 11] .pick, o1 13 12 .mv, g_ 14 13 false [s_ 1] .mv, g_ 15 13 false [s_ 14, k_ (.int .i64 2097151)] (.bin .gtr), m_ 16 [s_ 13, k_ (.bool true), s_ 15] .pick]) (.cond (.slot 16) (.seq (.reg [c1 4 (.int .i64 0) .mv, c1 5 (.bool false) .mv]) .ret) .skip)) (.seq (.dreg [o1 17 1 .mv, o1 18 2 (.faddr false 1 1), o1 19 18 (.load false 1), o2 20 17 19 (.bin .shr), o1 21 2 (.faddr false 2 1), o1 22 21 (.load false 1), m_ 23 [k_ (.int .i64 1), s_ 22] (.bin .shl), c2 24 23 (.int .i64 1) (.bin .sub), o2 25 20 24 (.bin .and), o1 26 2 (.faddr false 3 1), o1 27 26 (.load false 1), o2 28 25 27 (.bin .shl), o1 4 28 .mv, c1 5 (.bool true) .mv]) .ret)))
theorem zk3 : z0k Try.prog 124 2 = some ⟨29, 2, [(.slot 4), (.slot 5)], zbo⟩ := by kernel_rfl
theorem z81 {P : Program} {f m np b : Nat} {xs : List AV} {l : List Grp} {K : AV → z02 → Prop} {res : List ARes} {B : AC} (hf : z0k P f xs.length = some ⟨m, np, res, B⟩) (hb : b = l.length) (h : W P m b B (entry xs) (Abs.hl l) (Ret P res K)) : z1f P f xs (Abs.hl l) K := by
 subst hb
 exact zsp hf (W_T h)
theorem y58 (l : List Span) : z1f Try.prog 114 [.ref 0 1 0 0, .int .i64 0, .int .i64 0, .fn 95 []] (Abs.hl [⟨2, 1, true, l.map z1p⟩]) fun y H' => y = .tup [] ∧ H' = Abs.hl [⟨2, 1, true, l.map z1p⟩] := by
 refine z81 (b := 1) z3x rfl ?_
 unfold z2h
 (repeat' (first | (simp (disch := omega) only [push_cast, ↓zz, seval]) | (with_reducible first | refine And.intro ?_ ?_ | (first | refine z01 ?_ ?_ | refine z00 ?_ ?_) <;> intro hc <;> (try simp only [push_cast] at hc)) | omega | with_reducible intro _))
 refine z0n (z0p (fun (_ : Unit) => True) (fun _ => 0) (fun _ => [(0, .ref 0 1 0 0), (1, .int .i64 0), (2, .int .i64 0), (3, .fn 95 []), (8, .int .i64 1)])
   (fun _ => [⟨2, 1, true, l.map z1p⟩]) (fun _ _ => []) () trivial ?_ ?_)
 · (repeat' (first | (simp (disch := omega) only [push_cast, ↓zz, seval]) | (with_reducible first | refine And.intro ?_ ?_ | (first | refine z01 ?_ ?_ | refine z00 ?_ ?_) <;> intro hc <;> (try simp only [push_cast] at hc)) | omega | with_reducible intro _))
 rintro _ _
 refine W_T ?_
 (repeat' (first | (simp (disch := omega) only [push_cast, ↓zz, seval]) | (with_reducible first | refine And.intro ?_ ?_ | (first | refine z01 ?_ ?_ | refine z00 ?_ ?_) <;> intro hc <;> (try simp only [push_cast] at hc)) | omega | with_reducible intro _))
 all_goals trace_state
set_option maxRecDepth 100000 in
theorem len0 : PC Try.prog 123 [.int .u64 0] (.int .i64 0) := by
 refine z0v zak ?_
 unfold z6b
 (repeat' (first | (simp (disch := omega) only [push_cast, ↓zz, seval]) | (with_reducible first | refine And.intro ?_ ?_ | (first | refine z01 ?_ ?_ | refine z00 ?_ ?_) <;> intro hc <;> (try simp only [push_cast] at hc)) | omega | with_reducible intro _))
 all_goals decide
theorem zqs : PC Try.prog 107 [.int .u64 0] (.int .i64 0) := by
 refine z0v zde ?_
 unfold z7e
 (repeat' (first | (simp (disch := omega) only [push_cast, ↓zz, seval]) | (with_reducible first | refine And.intro ?_ ?_ | (first | refine z01 ?_ ?_ | refine z00 ?_ ?_) <;> intro hc <;> (try simp only [push_cast] at hc)) | ((with_reducible first | refine eK len0 ?_ | refine eQ len0 ?_ | refine eG len0 ?_)) | ((with_reducible first | refine cK len0 ?_ | refine cQ len0 ?_ | refine cG len0 ?_); (simp (disch := omega) only [push_cast, ↓zz, seval]); (fail_if_success (with_reducible change False))) | omega | with_reducible intro _))
theorem pdq0 (l : List Span) : z1f Try.prog 106 [.ref 0 1 0 0, .int .i64 0, .int .i64 0, .int .i64 0, .fn 95 []] (Abs.hl [⟨2, 1, true, l.map z1p⟩]) fun y H' => y = .tup [] ∧ H' = Abs.hl [⟨2, 1, true, l.map z1p⟩] := by
 refine z81 (b := 1) z4l rfl ?_
 unfold z3a
 (repeat' (first | (simp (disch := omega) only [push_cast, ↓zz, seval]) | (with_reducible first | refine And.intro ?_ ?_ | (first | refine z01 ?_ ?_ | refine z00 ?_ ?_) <;> intro hc <;> (try simp only [push_cast] at hc)) | omega | with_reducible intro _))
 refine z0n (z0p (fun (_ : Unit) => True) (fun _ => 0) (fun _ => [(0, .ref 0 1 0 0), (1, .int .i64 0), (2, .int .i64 0), (3, .int .i64 0), (4, .fn 95 []), (10, .bool true), (11, .bool true)])
   (fun _ => [⟨2, 1, true, l.map z1p⟩]) (fun _ _ => []) () trivial ?_ ?_)
 · (repeat' (first | (simp (disch := omega) only [push_cast, ↓zz, seval]) | (with_reducible first | refine And.intro ?_ ?_ | (first | refine z01 ?_ ?_ | refine z00 ?_ ?_) <;> intro hc <;> (try simp only [push_cast] at hc)) | omega | with_reducible intro _))
 rintro _ _
 refine W_T ?_
 (repeat' (first | (simp (disch := omega) only [push_cast, ↓zz, seval]) | (with_reducible first | refine And.intro ?_ ?_ | (first | refine z01 ?_ ?_ | refine z00 ?_ ?_) <;> intro hc <;> (try simp only [push_cast] at hc)) | omega | with_reducible intro _))
 refine z1f.mono (y58 l) ?_
 rintro y H' ⟨rfl, rfl⟩
 (repeat' (first | (simp (disch := omega) only [push_cast, ↓zz, seval]) | (with_reducible first | refine And.intro ?_ ?_ | (first | refine z01 ?_ ?_ | refine z00 ?_ ?_) <;> intro hc <;> (try simp only [push_cast] at hc)) | omega | with_reducible intro _))
 all_goals trace_state
theorem sort0 (l : List Span) : z1f Try.prog 94 [.ref 0 1 0 0, .fn 95 []] (Abs.hl [⟨2, 1, true, l.map z1p⟩]) fun y H' => y = .tup [] ∧ H' = Abs.hl [⟨2, 1, true, l.map z1p⟩] := by
 refine z81 (b := 1) z48 rfl ?_
 unfold z2w
 (repeat' (first | (simp (disch := omega) only [push_cast, ↓zz, seval]) | (with_reducible first | refine And.intro ?_ ?_ | (first | refine z01 ?_ ?_ | refine z00 ?_ ?_) <;> intro hc <;> (try simp only [push_cast] at hc)) | ((with_reducible first | refine eK zqs ?_ | refine eQ zqs ?_ | refine eG zqs ?_)) | ((with_reducible first | refine cK zqs ?_ | refine cQ zqs ?_ | refine cG zqs ?_); (simp (disch := omega) only [push_cast, ↓zz, seval]); (fail_if_success (with_reducible change False))) | omega | with_reducible intro _))
 refine z1f.mono (pdq0 l) ?_
 rintro y H' ⟨rfl, rfl⟩
 (repeat' (first | (simp (disch := omega) only [push_cast, ↓zz, seval]) | (with_reducible first | refine And.intro ?_ ?_ | (first | refine z01 ?_ ?_ | refine z00 ?_ ?_) <;> intro hc <;> (try simp only [push_cast] at hc)) | omega | with_reducible intro _))
 all_goals trace_state
def memL (l : List Span) (x : Int) : Prop := ∃ s ∈ l, s.lo ≤ x ∧ x ≤ s.hi
theorem z2c (x : Int) : ¬ memL [] x := fun ⟨s, hs, _⟩ => by cases hs
theorem z0q {s : Span} {l : List Span} {x : Int} : memL (s :: l) x ↔ (s.lo ≤ x ∧ x ≤ s.hi) ∨ memL l x := by
 constructor
 · rintro ⟨t, ht, hx⟩
   rcases List.mem_cons.1 ht with rfl | ht
   · exact .inl hx
   · exact .inr ⟨t, ht, hx⟩
 · rintro (hx | ⟨t, ht, hx⟩)
   · exact ⟨s, by simp, hx⟩
   · exact ⟨t, by simp [ht], hx⟩
theorem z5r {l m : List Span} {x : Int} : memL (l ++ m) x ↔ memL l x ∨ memL m x := by
 constructor
 · rintro ⟨t, ht, hx⟩
   rcases List.mem_append.1 ht with ht | ht
   · exact .inl ⟨t, ht, hx⟩
   · exact .inr ⟨t, ht, hx⟩
 · rintro (⟨t, ht, hx⟩ | ⟨t, ht, hx⟩)
   · exact ⟨t, by simp [ht], hx⟩
   · exact ⟨t, by simp [ht], hx⟩
def Plain (l : List Span) : Prop := (∀ s ∈ l, s.lo ≤ s.hi) ∧ l.Pairwise fun s t => s.hi + 1 < t.lo
theorem Plain.tail {s : Span} {l : List Span} (h : Plain (s :: l)) : Plain l := ⟨fun t ht => h.1 t (by simp [ht]), (List.pairwise_cons.1 h.2).2⟩
theorem Plain.head {s : Span} {l : List Span} (h : Plain (s :: l)) : s.lo ≤ s.hi := h.1 s (by simp)
theorem Plain.after {s : Span} {l : List Span} (h : Plain (s :: l)) {x : Int} (hx : memL l x) : s.hi + 1 < x := by
 obtain ⟨t, ht, h1, h2⟩ := hx
 have := (List.pairwise_cons.1 h.2).1 t ht
 omega
theorem z7g : ∀ {a b : List Span}, Plain a → Plain b → (∀ x, memL a x ↔ memL b x) → a = b
 | [], [], _, _, _ => rfl
 | [], t :: b, _, hb, h => absurd ((h t.lo).2 (z0q.2 (.inl ⟨Int.le_refl _, hb.head⟩))) (z2c _)
 | s :: a, [], ha, _, h => absurd ((h s.lo).1 (z0q.2 (.inl ⟨Int.le_refl _, ha.head⟩))) (z2c _)
 | s :: a, t :: b, ha, hb, h => by
   have hs := ha.head
   have ht := hb.head
   have key : ∀ {s t : Span} {a b : List Span}, Plain (s :: a) → Plain (t :: b) → (∀ x, memL (s :: a) x ↔ memL (t :: b) x) → t.lo ≤ s.lo := fun {s t a b} ha hb h => by
     rcases z0q.1 ((h s.lo).1 (z0q.2 (.inl ⟨Int.le_refl _, ha.head⟩))) with hh | hh
     · exact hh.1
     · have := hb.after hh; have := hb.head; omega
   have hlo : s.lo = t.lo := Int.le_antisymm (key hb ha fun x => (h x).symm) (key ha hb h)
   have key2 : ∀ {s t : Span} {a b : List Span}, Plain (s :: a) → Plain (t :: b) → (∀ x, memL (s :: a) x ↔ memL (t :: b) x) → s.lo = t.lo → t.hi ≤ s.hi := fun {s t a b} ha hb h e => by
     have := ha.head
     rcases Int.lt_or_le s.hi t.hi with hlt | hle
     · rcases z0q.1 ((h (s.hi + 1)).2 (z0q.2 (.inl ⟨by omega, by omega⟩))) with hh | hh
       · omega
       · have := ha.after hh; omega
     · exact hle
   have hhi : s.hi = t.hi := Int.le_antisymm (key2 hb ha (fun x => (h x).symm) hlo.symm) (key2 ha hb h hlo)
   have hst : s = t := by cases s; cases t; simp_all
   subst hst
   refine congrArg _ (z7g ha.tail hb.tail fun x => ⟨fun hx => ?_, fun hx => ?_⟩)
   · rcases z0q.1 ((h x).1 (z0q.2 (.inr hx))) with hh | hh
     · have := ha.after hx; omega
     · exact hh
   · rcases z0q.1 ((h x).2 (z0q.2 (.inr hx))) with hh | hh
     · have := hb.after hx; omega
     · exact hh
def z38 (out : List Span) (x : Span) : List Span :=
 match out.getLast? with
 | some y => if x.lo ≤ y.hi + 1 then out.dropLast ++ [⟨y.lo, max y.hi x.hi⟩] else out ++ [x]
 | none => [x]
theorem z4p (x : Span) : z38 [] x = [x] := rfl
theorem z91 (out : List Span) (y x : Span) : z38 (out ++ [y]) x = if x.lo ≤ y.hi + 1 then out ++ [⟨y.lo, max y.hi x.hi⟩] else out ++ [y] ++ [x] := by
 simp [z38]
theorem z56 (l : List Span) : l = [] ∨ ∃ m y, l = m ++ [y] := by
 rcases List.eq_nil_or_concat l with h | ⟨m, y, h⟩
 · exact .inl h
 · exact .inr ⟨m, y, by simpa using h⟩
theorem z57 {m : List Span} {y : Span} : Plain (m ++ [y]) ↔ Plain m ∧ y.lo ≤ y.hi ∧ ∀ s ∈ m, s.hi + 1 < y.lo := by
 simp only [Plain, List.pairwise_append, List.mem_append, List.mem_singleton, List.pairwise_singleton, true_and, or_imp, forall_and, forall_eq]
 constructor
 · rintro ⟨⟨h1, h2⟩, h3, h4⟩; exact ⟨⟨h1, h3⟩, h2, h4⟩
 · rintro ⟨⟨h1, h3⟩, h2, h4⟩; exact ⟨⟨h1, h2⟩, h3, h4⟩
def Before (l : List Span) (x : Int) : Prop := ∀ s ∈ l, s.lo ≤ x
theorem zm4 {out : List Span} {x : Span} (h : Plain out) (hx : x.lo ≤ x.hi) (hb : Before out x.lo) : Plain (z38 out x) ∧ Before (z38 out x) x.lo ∧ ∀ v, memL (z38 out x) v ↔ memL out v ∨ (x.lo ≤ v ∧ v ≤ x.hi) := by
 rcases z56 out with rfl | ⟨m, y, rfl⟩
 · refine ⟨⟨by simp [z4p, hx], by simp [z4p]⟩, by simp [z4p, Before], fun v => ?_⟩
   rw [z4p, z0q]
   constructor
   · rintro (h | h)
     · exact .inr h
     · exact absurd h (z2c _)
   · rintro (h | h)
     · exact absurd h (z2c _)
     · exact .inl h
 · rw [z91]
   obtain ⟨h1, h2, h3⟩ := z57.1 h
   have hy : y.lo ≤ x.lo := hb y (by simp)
   split
   · rename_i hle
     refine ⟨z57.2 ⟨h1, by simp only; omega, fun s hs => h3 s hs⟩, ?_, fun v => ?_⟩
     · intro s hs
       rcases List.mem_append.1 hs with hs | hs
       · exact hb s (by simp [hs])
       · simp only [List.mem_singleton] at hs; subst hs; exact hy
     · rw [z5r, z5r, z0q, z0q]
       simp only [z2c, or_false]
       constructor
       · rintro (h | h)
         · exact .inl (.inl h)
         · by_cases hv : v ≤ y.hi
           · exact .inl (.inr ⟨h.1, hv⟩)
           · exact .inr ⟨by omega, by omega⟩
       · rintro ((h | h) | h)
         · exact .inl h
         · exact .inr ⟨h.1, by omega⟩
         · exact .inr ⟨by omega, by omega⟩
   · rename_i hle
     refine ⟨z57.2 ⟨h, hx, fun s hs => ?_⟩, ?_, fun v => ?_⟩
     · rcases List.mem_append.1 hs with hs | hs
       · have := h3 s hs; omega
       · simp only [List.mem_singleton] at hs; subst hs; omega
     · intro s hs
       rcases List.mem_append.1 hs with hs | hs
       · exact hb s hs
       · simp only [List.mem_singleton] at hs; subst hs; exact Int.le_refl _
     · rw [z5r, z0q]
       simp only [z2c, or_false]
theorem z6c : ∀ (l out : List Span), Plain out → (∀ s ∈ l, s.lo ≤ s.hi) → l.Pairwise (fun a b => a.lo ≤ b.lo) → (∀ s ∈ l, Before out s.lo) → Plain (l.foldl z38 out) ∧ ∀ v, memL (l.foldl z38 out) v ↔ memL out v ∨ memL l v
 | [], out, h, _, _, _ => ⟨h, fun v => by simp only [List.foldl_nil, z2c, or_false]⟩
 | x :: l, out, h, h1, h2, h3 => by
   obtain ⟨p1, p2, p3⟩ := zm4 h (h1 x (by simp)) (h3 x (by simp))
   rw [List.pairwise_cons] at h2
   obtain ⟨q1, q2⟩ := z6c l (z38 out x) p1 (fun s hs => h1 s (by simp [hs])) h2.2 (fun s hs t ht => Int.le_trans (p2 t ht) (h2.1 s hs))
   refine ⟨q1, fun v => ?_⟩
   rw [List.foldl_cons, q2 v, p3 v, z0q, or_assoc]
theorem zqt (out : List Span) (x : Span) : (z38 out x).length ≤ out.length + 1 := by
 rcases z56 out with rfl | ⟨m, y, rfl⟩
 · simp [z4p]
 · rw [z91]; split <;> simp
theorem zhh : ∀ (l out : List Span), (l.foldl z38 out).length ≤ out.length + l.length
 | [], out => by simp
 | x :: l, out => by
   have h1 := zhh l (z38 out x)
   have h2 := zqt out x
   simp only [List.foldl_cons, List.length_cons]
   omega
def z92 (s : Span) : Span := ⟨max s.lo (-1073741824), min s.hi 1073741824⟩
def inN (l : List Span) : List Span := (l.map z92).filter fun s => decide (s.lo ≤ s.hi)
theorem zv0 {l : List Span} {x : Int} : memL (inN l) x ↔ memL l x ∧ -1073741824 ≤ x ∧ x ≤ 1073741824 := by
 constructor
 · rintro ⟨s, hs, h1, h2⟩
   simp only [inN, List.mem_filter, List.mem_map] at hs
   obtain ⟨⟨t, ht, rfl⟩, _⟩ := hs
   simp only [z92] at h1 h2
   exact ⟨⟨t, ht, by omega, by omega⟩, by omega, by omega⟩
 · rintro ⟨⟨t, ht, h1, h2⟩, h3, h4⟩
   refine ⟨z92 t, ?_, by simp only [z92]; omega, by simp only [z92]; omega⟩
   simp only [inN, List.mem_filter, List.mem_map, decide_eq_true_eq]
   exact ⟨⟨t, ht, rfl⟩, by simp only [z92]; omega⟩
theorem zor {l : List Span} : ∀ s ∈ inN l, s.lo ≤ s.hi := fun s hs => by
 simp only [inN, List.mem_filter, decide_eq_true_eq] at hs
 exact hs.2
theorem zdi {l m : List Span} (h : l.Perm m) (x : Int) : memL l x ↔ memL m x :=
 ⟨fun ⟨s, hs, hx⟩ => ⟨s, h.mem_iff.1 hs, hx⟩, fun ⟨s, hs, hx⟩ => ⟨s, h.mem_iff.2 hs, hx⟩⟩
def z0i (l : List Span) : List Span := ((inN l).mergeSort fun a b => decide (a.lo ≤ b.lo)).foldl z38 []
theorem zzb {l m : List Span} (hp : m.Perm (inN l)) (hs : m.Pairwise fun a b => a.lo ≤ b.lo) : m.foldl z38 [] = z0i l := by
 have hq : ((inN l).mergeSort fun a b => decide (a.lo ≤ b.lo)).Perm (inN l) := List.mergeSort_perm _ _
 have hs' : ((inN l).mergeSort fun a b => decide (a.lo ≤ b.lo)).Pairwise fun a b => a.lo ≤ b.lo := by
   have := List.pairwise_mergeSort (le := fun a b : Span => decide (a.lo ≤ b.lo)) (fun a b c h1 h2 => by simp at *; omega) (fun a b => by simp; omega) (inN l)
   simpa using this
 obtain ⟨a1, a2⟩ := z6c m [] ⟨by simp, by simp⟩ (fun s h => zor s (hp.mem_iff.1 h)) hs (fun s _ t ht => by cases ht)
 obtain ⟨b1, b2⟩ := z6c _ [] ⟨by simp, by simp⟩ (fun s h => zor s (hq.mem_iff.1 h)) hs' (fun s _ t ht => by cases ht)
 refine z7g a1 b1 fun x => ?_
 rw [z0i, a2 x, b2 x, zdi hp x, zdi hq x]
theorem z1c (l : List Span) : Plain (z0i l) ∧ ∀ x, memL (z0i l) x ↔ memL l x ∧ -1073741824 ≤ x ∧ x ≤ 1073741824 := by
 have hq : ((inN l).mergeSort fun a b => decide (a.lo ≤ b.lo)).Perm (inN l) := List.mergeSort_perm _ _
 have hs' : ((inN l).mergeSort fun a b => decide (a.lo ≤ b.lo)).Pairwise fun a b => a.lo ≤ b.lo := by
   have := List.pairwise_mergeSort (le := fun a b : Span => decide (a.lo ≤ b.lo)) (fun a b c h1 h2 => by simp at *; omega) (fun a b => by simp; omega) (inN l)
   simpa using this
 obtain ⟨b1, b2⟩ := z6c _ [] ⟨by simp, by simp⟩ (fun s h => zor s (hq.mem_iff.1 h)) hs' (fun s _ t ht => by cases ht)
 refine ⟨b1, fun x => ?_⟩
 rw [z0i, b2 x, zdi hq x, zv0]
 simp only [z2c, false_or]
theorem zm5 (l : List Span) : (inN l).length ≤ l.length := by
 have := List.length_filter_le (fun s : Span => decide (s.lo ≤ s.hi)) (l.map z92)
 simpa [inN] using this
theorem z3r (l : List Span) : (z0i l).length ≤ l.length := by
 have h1 := zhh ((inN l).mergeSort fun a b => decide (a.lo ≤ b.lo)) []
 have h2 := zm5 l
 rw [List.length_mergeSort] at h1
 simp only [List.length_nil] at h1
 rw [z0i]
 omega
end Go.Proofs.Yticodgjinajkpaa
