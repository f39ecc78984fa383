/-
  A call that knows some of the groups only, among others: these stay as they are.
  What a call leaves, without what is of no use any more.
  Functions that hand on rows: their code, carried out between the rounds.
  Contracts of layers 2, 3: sorts; parts.
  Contracts of layer 4: terms.
  Contracts of layer 4: values; terms put together and bound.
  Contracts of layer 4: terms put together and bound.
  Contracts of layer 4: the document's terms put together, and bound; terms alike.
  Contracts of layer 4: terms bound; terms alike.
  Plain laws of layer 4: what terms put together, and bound, tell.
  What comes in, as the program's data.
  Contracts of layer 4's statements: the document's examples; rightness, values.
  Contracts of layer 4's statements: terms put together, and bound.
  A loop of few rounds, walked round by round.
  Families of groups: what is known, weakened step by step; loops over it.
  Epsilon rules: states whose ways come to an end, taken one by one.
  Ways of epsilon rules that are longer than there are states go round.
-/
import Derived.LoopNIn
import Derived.Test.YticodgjinajkpaaDA4
import Derived.Test.YticodgjinajkpaaDA3
import Derived.Test.YticodgjinajkpaaDA2
set_option linter.unusedSimpArgs false
set_option linter.unusedVariables false
namespace Go.Proofs.Yticodgjinajkpaa.Abs
mutual
def ren (σ : Nat → Nat) : AV → AV
 | .any => .any
 | .bool b => .bool b
 | .int k n => .int k n
 | .str s => .str s
 | .nilS => .nilS
 | .nul => .nul
 | .emp => .emp
 | .lst w xs => .lst w xs
 | .full w xs => .full w xs
 | .map g v => .map (σ g) v
 | .ref g v o n => .ref (σ g) v o n
 | .cptr x => .cptr x
 | .ptr g v i o => .ptr (σ g) v i o
 | .nilP => .nilP
 | .agg cs => .agg (renL σ cs)
 | .tup cs => .tup (renL σ cs)
 | .fn f cs => .fn f (renL σ cs)
 | .nilF => .nilF
 | .yld l => .yld l
def renL (σ : Nat → Nat) : List AV → List AV
 | [] => []
 | x :: xs => ren σ x :: renL σ xs
end
mutual
def ltV (m : Nat) : AV → Prop
 | .map g _ | .ref g _ _ _ | .ptr g _ _ _ => g < m
 | .agg cs | .tup cs | .fn _ cs => ltL m cs
 | .any | .bool _ | .int .. | .str _ | .nilS | .nul | .emp | .lst .. | .full .. | .cptr _ | .nilP | .nilF | .yld _ => True
def ltL (m : Nat) : List AV → Prop
 | [] => True
 | x :: xs => ltV m x ∧ ltL m xs
end
def renG (σ : Nat → Nat) (G : Grp) : Grp := ⟨G.w, G.ver, G.exact, renL σ G.xs⟩
mutual
theorem y20 {A B : MS} {σ : Nat → Nat} (hw : B.w = A.w) (hi : ∀ b, A.im b → B.im b) (hg : ∀ g, g < A.n → σ g < B.n ∧ B.cur (σ g) = A.cur g ∧ B.place (σ g) = A.place g ∧ B.cap (σ g) = A.cap g ∧ B.wid (σ g) = A.wid g) : ∀ (x : AV) {v : Value}, VRel A x v → VRel B (ren σ x) v
 | .any, _, _ => trivial
 | .bool _, _, h => h
 | .int _ _, _, h => h
 | .str _, _, h => h
 | .nilS, _, h => h
 | .nul, _, h => h
 | .emp, _, h => h
 | .nilP, _, h => h
 | .nilF, _, h => h
 | .yld _, _, h => h
 | .lst wd xs, v, h => by
   obtain ⟨hp, h0, a, cap, vs, hv, hc, hl, hr⟩ := h
   refine ⟨hp, h0, a, cap, vs, hv, hc, z04.of_pure hw hi hp hl, fun hne => ?_⟩
   obtain ⟨b, o, ha, hb, hrow⟩ := hr hne
   exact ⟨b, o, ha, hi b hb, by rw [hw]; exact hrow⟩
 | .full wd xs, v, h => by
   obtain ⟨hp, h0, a, vs, hv, hc, hl, hr⟩ := h
   refine ⟨hp, h0, a, vs, hv, hc, z04.of_pure hw hi hp hl, fun hne => ?_⟩
   obtain ⟨b, o, ha, hb, hrow⟩ := hr hne
   exact ⟨b, o, ha, hi b hb, by rw [hw]; exact hrow⟩
 | .cptr x, v, h => by
   obtain ⟨hp, b, o, u, hv, hb, hx, hl⟩ := h
   exact ⟨hp, b, o, u, hv, hi b hb, VRel.of_pure hw hi hp hx, by rw [hw]; exact hl⟩
 | .map g vn, v, h => by
   obtain ⟨hs, hgn, hc, hv⟩ := h
   obtain ⟨k1, k2, k3, k4, k5⟩ := hg g hgn
   exact ⟨hs, k1, by rw [k2]; exact hc, fun h' => by rw [k3]; exact hv (by rw [← k2]; exact h')⟩
 | .ref g vn off len, v, h => by
   obtain ⟨hs, hgn, hc, hv⟩ := h
   obtain ⟨k1, k2, k3, k4, k5⟩ := hg g hgn
   exact ⟨hs, k1, by rw [k2]; exact hc, fun h' => by rw [k3, k4, k5]; exact hv (by rw [← k2]; exact h')⟩
 | .ptr g vn i o, v, h => by
   obtain ⟨hs, hgn, hc, hv⟩ := h
   obtain ⟨k1, k2, k3, k4, k5⟩ := hg g hgn
   exact ⟨hs, k1, by rw [k2]; exact hc, fun h' => by rw [k3, k5]; exact hv (by rw [← k2]; exact h')⟩
 | .agg cs, v, h => by obtain ⟨vs, hv, h⟩ := h; exact ⟨vs, hv, zam hw hi hg cs h⟩
 | .tup cs, v, h => by obtain ⟨vs, hv, h⟩ := h; exact ⟨vs, hv, zam hw hi hg cs h⟩
 | .fn f cs, v, h => by obtain ⟨vs, hv, h⟩ := h; exact ⟨vs, hv, zam hw hi hg cs h⟩
theorem zam {A B : MS} {σ : Nat → Nat} (hw : B.w = A.w) (hi : ∀ b, A.im b → B.im b) (hg : ∀ g, g < A.n → σ g < B.n ∧ B.cur (σ g) = A.cur g ∧ B.place (σ g) = A.place g ∧ B.cap (σ g) = A.cap g ∧ B.wid (σ g) = A.wid g) : ∀ (xs : List AV) {vs : List Value}, z04 A xs vs → z04 B (renL σ xs) vs
 | [], _, h => h
 | x :: xs, _, h => by
   obtain ⟨v, r, hv, h1, h2⟩ := h
   exact ⟨v, r, hv, y20 hw hi hg x h1, zam hw hi hg xs h2⟩
end
mutual
theorem zow {A B : MS} {σ : Nat → Nat} {m : Nat} (hw : A.w = B.w) (hi : ∀ b, B.im b → A.im b) (hg : ∀ g, g < m → g < A.n ∧ B.cur (σ g) = A.cur g ∧ B.place (σ g) = A.place g ∧ B.cap (σ g) = A.cap g ∧ B.wid (σ g) = A.wid g) : ∀ (x : AV) {v : Value}, ltV m x → VRel B (ren σ x) v → VRel A x v
 | .any, _, _, _ => trivial
 | .bool _, _, _, h => h
 | .int _ _, _, _, h => h
 | .str _, _, _, h => h
 | .nilS, _, _, h => h
 | .nul, _, _, h => h
 | .emp, _, _, h => h
 | .nilP, _, _, h => h
 | .nilF, _, _, h => h
 | .yld _, _, _, h => h
 | .lst wd xs, v, _, h => by
   obtain ⟨hp, h0, a, cap, vs, hv, hc, hl, hr⟩ := h
   refine ⟨hp, h0, a, cap, vs, hv, hc, z04.of_pure hw hi hp hl, fun hne => ?_⟩
   obtain ⟨b, o, ha, hb, hrow⟩ := hr hne
   exact ⟨b, o, ha, hi b hb, by rw [hw]; exact hrow⟩
 | .full wd xs, v, _, h => by
   obtain ⟨hp, h0, a, vs, hv, hc, hl, hr⟩ := h
   refine ⟨hp, h0, a, vs, hv, hc, z04.of_pure hw hi hp hl, fun hne => ?_⟩
   obtain ⟨b, o, ha, hb, hrow⟩ := hr hne
   exact ⟨b, o, ha, hi b hb, by rw [hw]; exact hrow⟩
 | .cptr x, v, _, h => by
   obtain ⟨hp, b, o, u, hv, hb, hx, hl⟩ := h
   exact ⟨hp, b, o, u, hv, hi b hb, VRel.of_pure hw hi hp hx, by rw [hw]; exact hl⟩
 | .map g vn, v, hm, h => by
   obtain ⟨hs, hgn, hc, hv⟩ := h
   obtain ⟨k1, k2, k3, k4, k5⟩ := hg g hm
   exact ⟨hs, k1, by rw [← k2]; exact hc, fun h' => by rw [← k3]; exact hv (by rw [k2]; exact h')⟩
 | .ref g vn off len, v, hm, h => by
   obtain ⟨hs, hgn, hc, hv⟩ := h
   obtain ⟨k1, k2, k3, k4, k5⟩ := hg g hm
   exact ⟨hs, k1, by rw [← k2]; exact hc, fun h' => by rw [← k3, ← k4, ← k5]; exact hv (by rw [k2]; exact h')⟩
 | .ptr g vn i o, v, hm, h => by
   obtain ⟨hs, hgn, hc, hv⟩ := h
   obtain ⟨k1, k2, k3, k4, k5⟩ := hg g hm
   exact ⟨hs, k1, by rw [← k2]; exact hc, fun h' => by rw [← k3, ← k5]; exact hv (by rw [k2]; exact h')⟩
 | .agg cs, v, hm, h => by obtain ⟨vs, hv, h⟩ := h; exact ⟨vs, hv, z4w hw hi hg cs hm h⟩
 | .tup cs, v, hm, h => by obtain ⟨vs, hv, h⟩ := h; exact ⟨vs, hv, z4w hw hi hg cs hm h⟩
 | .fn f cs, v, hm, h => by obtain ⟨vs, hv, h⟩ := h; exact ⟨vs, hv, z4w hw hi hg cs hm h⟩
theorem z4w {A B : MS} {σ : Nat → Nat} {m : Nat} (hw : A.w = B.w) (hi : ∀ b, B.im b → A.im b) (hg : ∀ g, g < m → g < A.n ∧ B.cur (σ g) = A.cur g ∧ B.place (σ g) = A.place g ∧ B.cap (σ g) = A.cap g ∧ B.wid (σ g) = A.wid g) : ∀ (xs : List AV) {vs : List Value}, ltL m xs → z04 B (renL σ xs) vs → z04 A xs vs
 | [], _, _, h => h
 | x :: xs, _, hm, h => by
   obtain ⟨v, r, hv, h1, h2⟩ := h
   exact ⟨v, r, hv, zow hw hi hg x hm.1 h1, z4w hw hi hg xs hm.2 h2⟩
end
theorem z9z {σ : Nat → Nat} : ∀ xs : List AV, (renL σ xs).length = xs.length
 | [] => rfl
 | x :: xs => by simp [renL, z9z xs]
def sg (ks : List Nat) (N i : Nat) : Nat := if i < ks.length then ks.getD i 0 else N + (i - ks.length)
def iv (ks : List Nat) (N g : Nat) : Nat := if g < N then ks.idxOf g else ks.length + (g - N)
def setG : List Nat → List Grp → List Grp → List Grp
 | [], r, l => l ++ r
 | _ :: _, [], l => l
 | k :: ks, G :: r, l => setG ks r (l.set k G)
theorem zox : ∀ {ks : List Nat} {r l : List Grp}, ks.length ≤ r.length → (setG ks r l).length = l.length + (r.length - ks.length)
 | [], r, l, _ => by simp [setG]
 | k :: ks, [], l, h => by simp at h
 | k :: ks, G :: r, l, h => by
   rw [setG, zox (by simpa using h)]
   simp
theorem zan : ∀ {ks : List Nat} {r l : List Grp} {g : Nat}, g < l.length → g ∉ ks → (setG ks r l).getD g default = l.getD g default
 | [], r, l, g, hg, _ => by simp [setG, List.getD, List.getElem?_append_left hg]
 | k :: ks, [], l, g, _, _ => rfl
 | k :: ks, G :: r, l, g, hg, hk => by
   simp only [List.mem_cons, not_or] at hk
   rw [setG, zan (by simpa using hg) hk.2]
   simp [List.getD, List.getElem?_set_ne (fun h => hk.1 h.symm)]
theorem zv8 : ∀ {ks : List Nat} {r l : List Grp} {i : Nat}, ks.Nodup → (∀ k ∈ ks, k < l.length) → i < r.length → (setG ks r l).getD (sg ks l.length i) default = r.getD i default
 | [], r, l, i, _, _, hi => by
   simp only [setG, sg, List.length_nil, Nat.not_lt_zero, if_false, Nat.sub_zero, List.getD]
   rw [List.getElem?_append_right (by omega), Nat.add_sub_cancel_left]
 | k :: ks, [], l, i, _, _, hi => by simp at hi
 | k :: ks, G :: r, l, 0, hn, hk, _ => by
   rw [List.nodup_cons] at hn
   have h1 : k < l.length := hk k (by simp)
   have e : sg (k :: ks) l.length 0 = k := by simp [sg]
   rw [e, setG, zan (by simpa using h1) hn.1]
   simp [List.getD, List.getElem?_set_self h1]
 | k :: ks, G :: r, l, i + 1, hn, hk, hi => by
   rw [List.nodup_cons] at hn
   have e : sg (k :: ks) l.length (i + 1) = sg ks (l.set k G).length i := by simp [sg]
   rw [e, setG, zv8 hn.2 (fun k' h' => by simpa using hk k' (by simp [h'])) (by simpa using hi)]
   simp
theorem sg_lt {ks : List Nat} {N i n : Nat} (hk : ∀ k ∈ ks, k < N) (hi : i < n) (hm : ks.length ≤ n) : sg ks N i < N + (n - ks.length) := by
 unfold sg
 split
 · rename_i h
   have : ks.getD i 0 ∈ ks := by rw [List.getD_eq_getElem?_getD, List.getElem?_eq_getElem h]; exact List.getElem_mem h
   have := hk _ this
   omega
 · omega
theorem y5b {ks : List Nat} {N i : Nat} (hn : ks.Nodup) (hk : ∀ k ∈ ks, k < N) : iv ks N (sg ks N i) = i := by
 unfold sg
 split
 · rename_i h
   have hmem : ks.getD i 0 ∈ ks := by rw [List.getD_eq_getElem?_getD, List.getElem?_eq_getElem h]; exact List.getElem_mem h
   rw [iv, if_pos (hk _ hmem), List.getD_eq_getElem?_getD, List.getElem?_eq_getElem h]
   exact hn.idxOf_getElem i h
 · rw [iv, if_neg (by omega)]; omega
theorem zv9 {ks : List Nat} {N g : Nat} (hg : g ∈ ks) : ∃ i, i < ks.length ∧ sg ks N i = g := by
 obtain ⟨i, hi, he⟩ := List.getElem_of_mem hg
 exact ⟨i, hi, by rw [sg, if_pos hi, List.getD_eq_getElem?_getD, List.getElem?_eq_getElem hi]; exact he⟩
theorem zzv {ks : List Nat} {N g n : Nat} (hm : ks.length ≤ n) (hg : g < N + (n - ks.length)) (h : ¬ (g < N ∧ g ∉ ks)) : ∃ i, i < n ∧ sg ks N i = g := by
 by_cases hgN : g < N
 · have hmem : g ∈ ks := by
     by_cases hh : g ∈ ks
     · exact hh
     · exact absurd ⟨hgN, hh⟩ h
   obtain ⟨i, hi, he⟩ := zv9 (N := N) hmem
   exact ⟨i, by omega, he⟩
 · exact ⟨ks.length + (g - N), by omega, by rw [sg, if_neg (by omega)]; omega⟩
theorem zbw {σ : Nat → Nat} {l : List Grp} {i : Nat} (h : i < l.length) : (l.map (renG σ)).getD i default = renG σ (l.getD i default) := by
 simp [List.getD, List.getElem?_eq_getElem h]
theorem zkt {P : Program} {f : Nat} {xs0 xs : List AV} {l0 l : List Grp} {K0 K : AV → z02 → Prop} (ks : List Nat) (h : z0z P f xs0 (hl l0) K0) (hxs : renL (sg ks l.length) xs0 = xs)
   (hl0 : l0.map (renG (sg ks l.length)) = ks.map (fun k => l.getD k default)) (hn : ks.Nodup) (hk : ∀ k ∈ ks, k < l.length) (hlt : ltL ks.length xs0) (hltG : ∀ G ∈ l0, ltL ks.length G.xs)
   (hK : ∀ y H', K0 y H' → ∃ l', H' = hl l' ∧ ks.length ≤ l'.length ∧ K (ren (sg ks l.length) y) (hl (setG ks (l'.map (renG (sg ks l.length))) l))) : z0z P f xs (hl l) K := by
 refine ⟨h.1, fun S cargs hS hx => ?_⟩
 have hm : l0.length = ks.length := by simpa using congrArg List.length hl0
 have hSn : S.n = l.length := hS.n
 have hinj : ∀ i j, sg ks l.length i = sg ks l.length j → i = j := fun i j e => by rw [← y5b (i := i) hn hk, e, y5b hn hk]
 have hin : ∀ i, i < ks.length → sg ks l.length i < l.length ∧ sg ks l.length i ∈ ks := fun i hi => by
   have e : sg ks l.length i = ks[i] := by rw [sg, if_pos hi, List.getD_eq_getElem?_getD, List.getElem?_eq_getElem hi]; rfl
   rw [e]
   exact ⟨hk _ (List.getElem_mem hi), List.getElem_mem hi⟩
 have hat : ∀ i, i < ks.length → l.getD (sg ks l.length i) default = renG (sg ks l.length) (l0.getD i default) := fun i hi => by
   rw [← zbw (by omega), hl0, sg, if_pos hi]
   simp [List.getD, List.getElem?_eq_getElem hi]
 have hG : ∀ i, i < ks.length → GRel S (renG (sg ks l.length) (l0.getD i default)) (sg ks l.length i) := fun i hi => by
   have := hS.grp (sg ks l.length i) (hin i hi).1
   rwa [z2z, hat i hi] at this
 obtain ⟨O, hO⟩ : ∃ O : Nat → Prop, ∀ b, O b ↔ ∃ g, g < l.length ∧ g ∉ ks ∧ (l.getD g default).has (S.cap g) ∧ S.place g = b := ⟨_, fun _ => Iff.rfl⟩
 have hOfree : ∀ b, O b → ¬ (S.im b ∨ S.keep b) := fun b hb => by
   obtain ⟨g, h1, h2, h3, rfl⟩ := (hO b).1 hb
   exact (hS.grp g h1).has_ni (by rw [z2z]; exact h3)
 obtain ⟨S0, hS0d⟩ : ∃ S0 : MS, S0 = { S with keep := fun b => S.keep b ∨ O b, n := ks.length, place := fun i => S.place (sg ks l.length i), cur := fun i => S.cur (sg ks l.length i), cap := fun i => S.cap (sg ks l.length i), wid := fun i => S.wid (sg ks l.length i) } := ⟨_, rfl⟩
 have hdn : ∀ g, g < ks.length → g < S0.n ∧ S.cur (sg ks l.length g) = S0.cur g ∧ S.place (sg ks l.length g) = S0.place g ∧ S.cap (sg ks l.length g) = S0.cap g ∧ S.wid (sg ks l.length g) = S0.wid g := fun g hg => by
   subst hS0d; exact ⟨hg, rfl, rfl, rfl, rfl⟩
 have hw0 : S0.w = S.w := by subst hS0d; rfl
 have hi0 : ∀ b, S.im b → S0.im b := fun b hb => by subst hS0d; exact hb
 have hrel0 : SRel S0 (hl l0) := by
   refine ⟨by subst hS0d; exact hm.symm, fun i hi => ?_, fun i j hi hj hne h1 h2 => ?_, fun b hb => ?_⟩
   · have hi' : i < ks.length := by rw [← hm]; exact hi
     have hg := hG i hi'
     have hmem : l0.getD i default ∈ l0 := by rw [List.getD_eq_getElem?_getD, List.getElem?_eq_getElem (show i < l0.length from hi)]; exact List.getElem_mem _
     have hlg := hltG _ hmem
     rw [z2z]
     have hnO : (l0.getD i default).has (S.cap (sg ks l.length i)) → ¬ O (S.place (sg ks l.length i)) := fun hh ho => by
       obtain ⟨g, a1, a2, a3, a4⟩ := (hO _).1 ho
       exact hS.apart g (sg ks l.length i) a1 (hin i hi').1 (fun e => a2 (e ▸ (hin i hi').2)) (by rw [z2z]; exact a3) (by rw [z2z, hat i hi']; exact hh) a4
     refine ⟨by subst hS0d; exact hg.ver, by subst hS0d; exact hg.wid, fun hw hc => ?_, fun hw => by have := hg.len hw; subst hS0d; simpa [renG, z9z] using this, fun hw he => by have := hg.full hw he; subst hS0d; simpa [renG, z9z] using this, fun hw he => ?_⟩
     · have hc' : 0 < S.cap (sg ks l.length i) := by subst hS0d; exact hc
       obtain ⟨⟨cells, T, vs, b1, b2, b3, b4⟩, ni⟩ := hg.live hw hc'
       refine ⟨⟨cells, T, vs, by subst hS0d; exact b1, by subst hS0d; exact b2, z4w hw0 hi0 hdn _ hlg b3, b4⟩, fun hh => ?_⟩
       have hno := hnO (.inl ⟨hw, hc'⟩)
       subst hS0d
       exact hh.elim (fun hh => ni (.inl hh)) (fun hh => hh.elim (fun hh => ni (.inr hh)) hno)
     · obtain ⟨⟨es, clock, b1, b2⟩, ni⟩ := hg.mlive hw he
       refine ⟨⟨es, clock, by subst hS0d; exact b1, z4w hw0 hi0 hdn _ hlg b2⟩, fun hh => ?_⟩
       have hno := hnO (.inr ⟨hw, he⟩)
       subst hS0d
       exact hh.elim (fun hh => ni (.inl hh)) (fun hh => hh.elim (fun hh => ni (.inr hh)) hno)
   · have hi' : i < ks.length := by rw [← hm]; exact hi
     have hj' : j < ks.length := by rw [← hm]; exact hj
     rw [z2z] at h1 h2
     have := hS.apart (sg ks l.length i) (sg ks l.length j) (hin i hi').1 (hin j hj').1 (fun e => hne (hinj _ _ e)) (by rw [z2z, hat i hi']; subst hS0d; exact h1) (by rw [z2z, hat j hj']; subst hS0d; exact h2)
     subst hS0d
     exact this
   · subst hS0d
     rcases hb with hb | hb | hb
     · exact hS.im b (.inl hb)
     · exact hS.im b (.inr hb)
     · obtain ⟨g, a1, a2, a3, rfl⟩ := (hO _).1 hb
       exact (hS.grp g a1).has_lt (by rw [z2z]; exact a3)
 have hx0 : z04 S0 xs0 cargs := z4w hw0 hi0 hdn xs0 hlt (by rw [hxs]; exact hx)
 have hsz : S0.w.heap = S.w.heap := by rw [hw0]
 have hcall := h.2 S0 cargs hrel0 hx0
 rw [hw0] at hcall
 refine hcall.mono fun e w' hh => ?_
 obtain ⟨v, S1, y, H', he, hw1, ev, hS1, hv, hk0⟩ := hh
 obtain ⟨l', rfl, hml, hK'⟩ := hK y H' hk0
 have hn1 : S1.n = l'.length := hS1.n
 have hnot : ∀ i, ¬ (sg ks l.length i < l.length ∧ sg ks l.length i ∉ ks) := fun i hh => by
   by_cases hi : i < ks.length
   · exact hh.2 (hin i hi).2
   · have : sg ks l.length i = l.length + (i - ks.length) := by rw [sg, if_neg hi]
     omega
 obtain ⟨S', hS'd⟩ : ∃ S' : MS, S' = { w := S1.w, im := S1.im, keep := fun b => S1.keep b ∧ ¬ O b, n := l.length + (l'.length - ks.length), place := fun g => if g < l.length ∧ g ∉ ks then S.place g else S1.place (iv ks l.length g), cur := fun g => if g < l.length ∧ g ∉ ks then S.cur g else S1.cur (iv ks l.length g), cap := fun g => if g < l.length ∧ g ∉ ks then S.cap g else S1.cap (iv ks l.length g), wid := fun g => if g < l.length ∧ g ∉ ks then S.wid g else S1.wid (iv ks l.length g), base := S1.base } := ⟨_, rfl⟩
 have hoth : ∀ g, g < l.length → g ∉ ks → S'.place g = S.place g ∧ S'.cur g = S.cur g ∧ S'.cap g = S.cap g ∧ S'.wid g = S.wid g := fun g h1 h2 => by
   subst hS'd
   exact ⟨if_pos ⟨h1, h2⟩, if_pos ⟨h1, h2⟩, if_pos ⟨h1, h2⟩, if_pos ⟨h1, h2⟩⟩
 have hour : ∀ i, S'.place (sg ks l.length i) = S1.place i ∧ S'.cur (sg ks l.length i) = S1.cur i ∧ S'.cap (sg ks l.length i) = S1.cap i ∧ S'.wid (sg ks l.length i) = S1.wid i := fun i => by
   subst hS'd
   refine ⟨?_, ?_, ?_, ?_⟩ <;> simp only [if_neg (hnot i), y5b hn hk]
 have hn' : S'.n = l.length + (l'.length - ks.length) := by subst hS'd; rfl
 have hwS' : S'.w = S1.w := by subst hS'd; rfl
 have hup : ∀ g, g < S1.n → sg ks l.length g < S'.n ∧ S'.cur (sg ks l.length g) = S1.cur g ∧ S'.place (sg ks l.length g) = S1.place g ∧ S'.cap (sg ks l.length g) = S1.cap g ∧ S'.wid (sg ks l.length g) = S1.wid g := fun g hg => by
   obtain ⟨a1, a2, a3, a4⟩ := hour g
   exact ⟨by rw [hn']; exact sg_lt hk (by omega) hml, a2, a1, a3, a4⟩
 have hiS' : ∀ b, S1.im b → S'.im b := fun b hb => by subst hS'd; exact hb
 have hkS0 : ∀ b, O b → S0.keep b := fun b hb => by subst hS0d; exact .inr hb
 have hn0 : S0.n = ks.length := by subst hS0d; rfl
 have hevo : Evo S S' := by
   refine ⟨?_, ?_, ?_, ?_, ?_, fun b hb => ?_, fun b hb => ?_, fun b hb => ?_, fun b hb => ?_, ?_, fun g hg => ?_, fun g hg he => ?_⟩
   · have := ev.base; subst hS'd; subst hS0d; exact this
   · have := ev.os; rw [hw0] at this; rw [hwS']; exact this
   · have := ev.tape; rw [hw0] at this; rw [hwS']; exact this
   · have := ev.output; rw [hw0] at this; rw [hwS']; exact this
   · have := ev.size; rw [hw0] at this; rw [hwS']; exact this
   · have := ev.kept b (by subst hS0d; exact hb.imp id .inl); rw [hw0] at this; rw [hwS']; exact this
   · exact hiS' b (ev.im b (hi0 b hb))
   · have h1 := ev.keep b (by subst hS0d; exact .inl hb)
     subst hS'd
     exact ⟨h1, fun ho => hOfree b ho (.inr hb)⟩
   · have h1 := ev.fresh b (by subst hS'd; exact hb)
     subst hS0d
     exact h1.imp id fun hh h2 => hh (.inl h2)
   · rw [hn', hSn]; omega
   · rw [hSn] at hg
     by_cases hmem : g ∈ ks
     · obtain ⟨i, hi, rfl⟩ := zv9 (N := l.length) hmem
       rw [(hour i).2.1]
       have := ev.cur i (by rw [hn0]; exact hi)
       subst hS0d
       exact this
     · rw [(hoth g hg hmem).2.1]; exact Nat.le_refl _
   · rw [hSn] at hg
     by_cases hmem : g ∈ ks
     · obtain ⟨i, hi, rfl⟩ := zv9 (N := l.length) hmem
       obtain ⟨a1, a2, a3, a4⟩ := hour i
       rw [a1, a3, a4]
       rw [a2] at he
       have := ev.same i (by rw [hn0]; exact hi) (by subst hS0d; exact he)
       subst hS0d
       exact this
     · obtain ⟨a1, a2, a3, a4⟩ := hoth g hg hmem
       exact ⟨a1, a3, a4⟩
 have hlen : (setG ks (l'.map (renG (sg ks l.length))) l).length = l.length + (l'.length - ks.length) := by rw [zox (by simpa using hml)]; simp
 have hatO : ∀ g, g < l.length → g ∉ ks → (setG ks (l'.map (renG (sg ks l.length))) l).getD g default = l.getD g default := fun g h1 h2 => zan h1 h2
 have hatI : ∀ i, i < l'.length → (setG ks (l'.map (renG (sg ks l.length))) l).getD (sg ks l.length i) default = renG (sg ks l.length) (l'.getD i default) := fun i hi => by
   rw [zv8 hn hk (by simpa using hi), zbw hi]
 have hrel' : SRel S' (hl (setG ks (l'.map (renG (sg ks l.length))) l)) := by
   have hcov : ∀ g, g < (setG ks (l'.map (renG (sg ks l.length))) l).length → (g < l.length ∧ g ∉ ks) ∨ ∃ i, i < l'.length ∧ sg ks l.length i = g := fun g hg => by
     by_cases hh : g < l.length ∧ g ∉ ks
     · exact .inl hh
     · exact .inr (zzv hml (by rw [← hlen]; exact hg) hh)
   have hfree1 : ∀ i, i < l'.length → (l'.getD i default).has (S1.cap i) → ¬ S1.keep (S1.place i) := fun i hi hh hkk => (hS1.grp i hi).has_ni (by rw [z2z]; exact hh) (.inr hkk)
   refine ⟨by rw [hn']; exact hlen.symm, fun g hg => ?_, fun g g' hg hg' hne h1 h2 => ?_, fun b hb => ?_⟩
   · rcases hcov g hg with ⟨h1, h2⟩ | ⟨i, hi, rfl⟩
     · have hr := hS.grp g h1
       obtain ⟨a1, a2, a3, a4⟩ := hoth g h1 h2
       rw [z2z] at hr ⊢
       rw [hatO g h1 h2]
       have hblk : (l.getD g default).has (S.cap g) → S'.w.heap[S.place g]? = S.w.heap[S.place g]? := fun hh => by
         have := ev.kept (S.place g) (.inr (hkS0 _ ((hO _).2 ⟨g, h1, h2, hh, rfl⟩)))
         rw [hw0] at this; rw [hwS']; exact this
       have hnik : (l.getD g default).has (S.cap g) → ¬ (S'.im (S.place g) ∨ S'.keep (S.place g)) := fun hh hik => by
         have ho : O (S.place g) := (hO _).2 ⟨g, h1, h2, hh, rfl⟩
         rcases hik with hik | hik
         · rcases ev.fresh (S.place g) (by subst hS'd; exact hik) with h3 | h3
           · exact hOfree _ ho (.inl (by subst hS0d; exact h3))
           · exact h3 (hkS0 _ ho)
         · subst hS'd; exact hik.2 ho
       refine ⟨by rw [a2]; exact hr.ver, by rw [a4]; exact hr.wid, fun hw hc => ?_, fun hw => by rw [a3]; exact hr.len hw, fun hw he => by rw [a3]; exact hr.full hw he, fun hw he => ?_⟩
       · rw [a3] at hc
         obtain ⟨⟨cells, T, vs, b1, b2, b3, b4⟩, ni⟩ := hr.live hw hc
         rw [a1, a3]
         exact ⟨⟨cells, T, vs, by rw [hblk (.inl ⟨hw, hc⟩)]; exact b1, b2, b3.mono hevo, b4⟩, hnik (.inl ⟨hw, hc⟩)⟩
       · obtain ⟨⟨es, clock, b1, b2⟩, ni⟩ := hr.mlive hw he
         rw [a1]
         exact ⟨⟨es, clock, by rw [hblk (.inr ⟨hw, he⟩)]; exact b1, b2.mono hevo⟩, hnik (.inr ⟨hw, he⟩)⟩
     · have hr := hS1.grp i hi
       obtain ⟨a1, a2, a3, a4⟩ := hour i
       rw [z2z] at hr ⊢
       rw [hatI i hi]
       have hnik : ¬ (S1.im (S1.place i) ∨ S1.keep (S1.place i)) → ¬ (S'.im (S1.place i) ∨ S'.keep (S1.place i)) := fun hh hik => by
         subst hS'd
         exact hh (hik.imp id fun h3 => h3.1)
       refine ⟨by rw [a2]; exact hr.ver, by rw [a4]; exact hr.wid, fun hw hc => ?_, fun hw => by rw [a3]; have := hr.len hw; simpa [renG, z9z] using this, fun hw he => by rw [a3]; have := hr.full hw he; simpa [renG, z9z] using this, fun hw he => ?_⟩
       · rw [a3] at hc
         obtain ⟨⟨cells, T, vs, b1, b2, b3, b4⟩, ni⟩ := hr.live hw hc
         rw [a1, a3]
         exact ⟨⟨cells, T, vs, by rw [hwS']; exact b1, b2, zam hwS' hiS' hup _ b3, b4⟩, hnik ni⟩
       · obtain ⟨⟨es, clock, b1, b2⟩, ni⟩ := hr.mlive hw he
         rw [a1]
         exact ⟨⟨es, clock, by rw [hwS']; exact b1, zam hwS' hiS' hup _ b2⟩, hnik ni⟩
   · have hmix : ∀ g i, g < l.length → g ∉ ks → i < l'.length → (l.getD g default).has (S.cap g) → (l'.getD i default).has (S1.cap i) → S.place g ≠ S1.place i := fun g i b1 b2 b3 b4 b5 e => by
       have h3 := ev.keep _ (hkS0 _ ((hO _).2 ⟨g, b1, b2, b4, rfl⟩))
       rw [e] at h3
       exact hfree1 i b3 b5 h3
     rw [z2z] at h1 h2
     rcases hcov g hg with ⟨c1, c2⟩ | ⟨i, hi, rfl⟩ <;> rcases hcov g' hg' with ⟨d1, d2⟩ | ⟨j, hj, rfl⟩
     · rw [hatO g c1 c2, (hoth g c1 c2).2.2.1] at h1
       rw [hatO g' d1 d2, (hoth g' d1 d2).2.2.1] at h2
       rw [(hoth g c1 c2).1, (hoth g' d1 d2).1]
       exact hS.apart g g' c1 d1 hne (by rw [z2z]; exact h1) (by rw [z2z]; exact h2)
     · rw [hatO g c1 c2, (hoth g c1 c2).2.2.1] at h1
       rw [hatI j hj, (hour j).2.2.1] at h2
       rw [(hoth g c1 c2).1, (hour j).1]
       exact hmix g j c1 c2 hj h1 h2
     · rw [hatI i hi, (hour i).2.2.1] at h1
       rw [hatO g' d1 d2, (hoth g' d1 d2).2.2.1] at h2
       rw [(hoth g' d1 d2).1, (hour i).1]
       exact fun e => hmix g' i d1 d2 hi h2 h1 e.symm
     · rw [hatI i hi, (hour i).2.2.1] at h1
       rw [hatI j hj, (hour j).2.2.1] at h2
       rw [(hour i).1, (hour j).1]
       exact hS1.apart i j hi hj (fun e => hne (by rw [e])) (by rw [z2z]; exact h1) (by rw [z2z]; exact h2)
   · rw [hwS']
     refine hS1.im b ?_
     subst hS'd
     exact hb.imp id fun h3 => h3.1
 exact ⟨v, S', _, _, he, by rw [hwS']; exact hw1, hevo, hrel', y20 hwS' hiS' hup y hv, hK'⟩
mutual
theorem zzw (σ : Nat → Nat) : ∀ (x : AV), x.pure = true → ren σ x = x
 | .any, _ => rfl
 | .bool _, _ => rfl
 | .int _ _, _ => rfl
 | .str _, _ => rfl
 | .nilS, _ => rfl
 | .nul, _ => rfl
 | .emp, _ => rfl
 | .lst _ _, _ => rfl
 | .full _ _, _ => rfl
 | .cptr _, _ => rfl
 | .nilP, _ => rfl
 | .nilF, _ => rfl
 | .yld _, _ => rfl
 | .map _ _, h => by cases h
 | .ref _ _ _ _, h => by cases h
 | .ptr _ _ _ _, h => by cases h
 | .agg cs, h => by rw [ren, z7b σ cs h]
 | .tup cs, h => by rw [ren, z7b σ cs h]
 | .fn f cs, h => by rw [ren, z7b σ cs h]
theorem z7b (σ : Nat → Nat) : ∀ (xs : List AV), z0l xs = true → renL σ xs = xs
 | [], _ => rfl
 | x :: xs, h => by
   simp only [z0l, Bool.and_eq_true] at h
   rw [renL, zzw σ x h.1, z7b σ xs h.2]
end
mutual
theorem zva (m : Nat) : ∀ (x : AV), x.pure = true → ltV m x
 | .any, _ => trivial
 | .bool _, _ => trivial
 | .int _ _, _ => trivial
 | .str _, _ => trivial
 | .nilS, _ => trivial
 | .nul, _ => trivial
 | .emp, _ => trivial
 | .lst _ _, _ => trivial
 | .full _ _, _ => trivial
 | .cptr _, _ => trivial
 | .nilP, _ => trivial
 | .nilF, _ => trivial
 | .yld _, _ => trivial
 | .map _ _, h => by cases h
 | .ref _ _ _ _, h => by cases h
 | .ptr _ _ _ _, h => by cases h
 | .agg cs, h => z4t m cs h
 | .tup cs, h => z4t m cs h
 | .fn f cs, h => z4t m cs h
theorem z4t (m : Nat) : ∀ (xs : List AV), z0l xs = true → ltL m xs
 | [], _ => trivial
 | x :: xs, h => by
   simp only [z0l, Bool.and_eq_true] at h
   exact ⟨zva m x h.1, z4t m xs h.2⟩
end
def renM (σ : Nat → Nat) (xs : List AV) : List AV := renL σ xs
def ltM (m : Nat) (xs : List AV) : Prop := ltL m xs
section
variable {ks : List Nat} {N i m g k v o n w f : Nat} {x : AV} {xs cs : List AV} {e : Bool} {G : Grp} {r l : List Grp}
theorem y5c : renL (sg ks N) xs = bif z0l xs then xs else renM (sg ks N) xs := by
 cases h : z0l xs
 · rfl
 · exact z7b _ xs h
theorem y8w : ltL m xs = ifB (z0l xs) (ltM m xs) := propext ⟨fun h => .inr h, fun h => h.elim (z4t m xs) id⟩
theorem zzx : renM (sg ks N) [] = [] := rfl
theorem zvb : renM (sg ks N) (x :: xs) = ren (sg ks N) x :: renM (sg ks N) xs := rfl
theorem y5d : ltM m [] = True := rfl
theorem zzy : ltM m (x :: xs) = (ltV m x ∧ ltM m xs) := rfl
theorem y8x : ren (sg ks N) .any = .any := rfl
theorem y5e {b : Bool} : ren (sg ks N) (.bool b) = .bool b := rfl
theorem y8y {q : IntKind} {z : Int} : ren (sg ks N) (.int q z) = .int q z := rfl
theorem y8z {s : List UInt8} : ren (sg ks N) (.str s) = .str s := rfl
theorem y5f : ren (sg ks N) .nilS = .nilS := rfl
theorem y90 : ren (sg ks N) .nul = .nul := rfl
theorem y91 : ren (sg ks N) .emp = .emp := rfl
theorem y5g : ren (sg ks N) .nilP = .nilP := rfl
theorem y5h : ren (sg ks N) .nilF = .nilF := rfl
theorem y92 : ren (sg ks N) (.lst w xs) = .lst w xs := rfl
theorem y5i : ren (sg ks N) (.full w xs) = .full w xs := rfl
theorem y5j : ren (sg ks N) (.cptr x) = .cptr x := rfl
theorem y93 : ren (sg ks N) (.ref g v o n) = .ref (sg ks N g) v o n := rfl
theorem y94 : ren (sg ks N) (.ptr g v i o) = .ptr (sg ks N g) v i o := rfl
theorem y95 : ren (sg ks N) (.map g v) = .map (sg ks N g) v := rfl
theorem y96 : ren (sg ks N) (.agg cs) = .agg (renL (sg ks N) cs) := rfl
theorem y97 : ren (sg ks N) (.tup cs) = .tup (renL (sg ks N) cs) := rfl
theorem re_fn : ren (sg ks N) (.fn f cs) = .fn f (renL (sg ks N) cs) := rfl
theorem y98 : ltV m .any = True := rfl
theorem y5k {b : Bool} : ltV m (.bool b) = True := rfl
theorem y99 {q : IntKind} {z : Int} : ltV m (.int q z) = True := rfl
theorem y9a {s : List UInt8} : ltV m (.str s) = True := rfl
theorem y5l : ltV m .nilS = True := rfl
theorem y9b : ltV m .nul = True := rfl
theorem y9c : ltV m .emp = True := rfl
theorem y5m : ltV m .nilP = True := rfl
theorem y5n : ltV m .nilF = True := rfl
theorem y9d : ltV m (.lst w xs) = True := rfl
theorem y5o : ltV m (.full w xs) = True := rfl
theorem y5p : ltV m (.cptr x) = True := rfl
theorem y9e : ltV m (.ref g v o n) = (g < m) := rfl
theorem y9f : ltV m (.ptr g v i o) = (g < m) := rfl
theorem y9g : ltV m (.map g v) = (g < m) := rfl
theorem y9h : ltV m (.agg cs) = ltL m cs := rfl
theorem y9i : ltV m (.tup cs) = ltL m cs := rfl
theorem lv_fn : ltV m (.fn f cs) = ltL m cs := rfl
theorem sg_eq : sg ks N i = if i < ks.length then ks.getD i 0 else N + (i - ks.length) := rfl
theorem reG {σ : Nat → Nat} : renG σ ⟨w, v, e, xs⟩ = ⟨w, v, e, renL σ xs⟩ := rfl
theorem y9j : setG [] r l = l ++ r := rfl
theorem y5q : setG (k :: ks) (G :: r) l = setG ks r (l.set k G) := rfl
end
attribute [push_cast] y5c y8w zzx zvb y5d zzy y8x y5e y8y y8z y5f y90 y91 y5g y5h y92 y5i y5j y93 y94 y95 y96 y97 re_fn
attribute [push_cast] y98 y5k y99 y9a y5l y9b y9c y5m y5n y9d y5o y5p y9e y9f y9g y9h y9i lv_fn sg_eq reG y9j y5q List.set_cons_zero List.set_cons_succ List.getD_cons_zero List.getD_cons_succ
theorem zmz {P : Program} {f : Nat} {xs0 xs : List AV} {l0 l : List Grp} {K0 K : AV → z02 → Prop} (ks : List Nat) (h : z0z P f xs0 (hl l0) K0) (hn : ks.Nodup) (hk : ∀ k ∈ ks, k < l.length) (hxs : renL (sg ks l.length) xs0 = xs)
   (hl0 : l0.map (renG (sg ks l.length)) = ks.map (fun k => l.getD k default)) (hlt : ltL ks.length xs0) (hltG : ∀ G ∈ l0, ltL ks.length G.xs)
   (hK : ∀ y H', K0 y H' → ∃ l', H' = hl l' ∧ ks.length ≤ l'.length ∧ @nx (ren (sg ks l.length) y) (hl (setG ks (l'.map (renG (sg ks l.length))) l)) ⟨K⟩) : @zm5 P f xs (hl l) ⟨K⟩ :=
 zkt ks h hxs hl0 hn hk hlt hltG hK
section
variable {P : Program} {n b : Nat} {env : Env} {H : z02}
theorem zfz {S : MS} {l2 : List Grp} {H1 : z02} {ks : List Nat} {val : Nat → Value} (hS : SRel S (hl l2)) (hF : ∀ i, VRel S (rnV b H1 ks 6 (env i)) (val i)) : ∀ {live : List (Nat × AV)}, zb3 l2 H1 b ks env live → ∀ i, VRel S (z3t live i) (val i)
 | [], _, i => trivial
 | (t, y) :: r, h, i => by
   show VRel S (if i = t then y else z3t r i) _
   split
   · rename_i hit
     subst hit
     exact zjx (.inl hS) _ h.1 (hF i)
   · exact zfz hS hF h.2 i
theorem zi7 : ∀ (ws : List Nat) {S : MS} {l : List Grp} {val : Nat → Value}, (∀ w ∈ ws, 0 < w) → SRel S (hl l) → (∀ i, VRel S (env i) (val i)) → ∃ S', S'.w = S.w ∧ Evo S S' ∧ SRel S' (hl (l ++ ws.map z8t)) ∧ ∀ i, VRel S' (env i) (val i)
 | [], S, l, val, _, hS, hF => ⟨S, rfl, .refl S, by simpa using hS, hF⟩
 | w :: ws, S, l, val, hw, hS, hF => by
   have h1 := hS.virt w (hw w (by simp))
   rw [z3o] at h1
   obtain ⟨S', e1, e2, e3, e4⟩ := zi7 ws (S := S.virt w) (l := l ++ [z8t w]) (fun w' h' => hw w' (by simp [h'])) h1 (fun j => VRel.mono (Evo.virt _) _ (hF j))
   exact ⟨S', e1, (Evo.virt _).trans e2, by simpa using e3, e4⟩
theorem zzz {srcs : List Src} {live : List (Nat × AV)} {heap : List Grp} {S : MS} {val : Nat → Value} (hh : Head b env H srcs live heap) (hbS : b ≤ S.n) (hS : SRel S H) (hF : ∀ i, VRel S (env i) (val i)) :
   ∃ S', S'.w = S.w ∧ BEvo b S S' ∧ SRel S' (hl heap) ∧ ∀ i, VRel S' (z3t live i) (val i) := by
 obtain ⟨hb, hh⟩ := hh
 have hgn : H.groups.length = H.n := by simp [z02.groups]
 have hS1 : SRel S (hl H.groups) := hS.congr hgn (fun g hg => by
   show H.groups.getD g default = _
   simp [z02.groups, List.getD, hg])
 obtain ⟨S2, e1, e2, e3, e4⟩ := zi7 (z49 H.n srcs).2 (z7x hh.1) hS1 hF
 replace hh := hh.2
 generalize hl1 : H.groups ++ (z49 H.n srcs).2.map z8t = l1 at *
 obtain ⟨h1, h2, h3, h4⟩ := hh
 have hb1 : b ≤ l1.length := by rw [← hl1, List.length_append]; omega
 have hbS2 : b ≤ S2.n := Nat.le_trans hbS e2.n
 obtain ⟨k1, k2⟩ := zcw (ks := (z49 H.n srcs).1) hb1
 have hev := z7v (ks := (z49 H.n srcs).1) e3 hbS2
 have hrel := (zaj (ks := (z49 H.n srcs).1) 6 e3 hb1 (fun k hk => zc8 h1 k hk) (z6m h2)).congr k1 k2
 exact ⟨S2.repack b (hl l1) (z49 H.n srcs).1, e1, (e2.down hbS).trans hev, z7w hrel h4, zfz hrel (fun j => zr1 e3 6 (e4 j)) h3⟩
def Drop (b : Nat) (y : AV) (H : z02) [K : HK] : Prop := ∃ srcs y' heap, Head b (z3t [(0, y)]) H srcs [(0, y')] heap ∧ K.f y' (hl heap)
theorem y21 {y : AV} {K : AV → z02 → Prop} (srcs : List Src) (y' : AV) (heap : List Grp) (h1 : Head b (z3t [(0, y)]) H srcs [(0, y')] heap) (h2 : K y' (hl heap)) : @Drop b y H ⟨K⟩ := ⟨srcs, y', heap, h1, h2⟩
theorem zdq {f : Nat} {xs : List AV} {l : List Grp} {K : AV → z02 → Prop} (h : z0z P f xs (hl l) (fun y H' => @Drop l.length y H' ⟨K⟩)) : z0z P f xs (hl l) K :=
 ⟨h.1, fun S cargs hS hx => (h.2 S cargs hS hx).mono fun e w' hh => by
   obtain ⟨v, S1, y, H', he, hw, ev, hS1, hv, srcs, y', heap, h1, h2⟩ := hh
   have hn : S.n = l.length := hS.n
   obtain ⟨S2, q1, q2, q3, q4⟩ := zzz (S := S1) (val := fun i => if i = 0 then v else undef) h1 (by rw [← hn]; exact ev.n) hS1 (fun i => by
     show VRel S1 (if i = 0 then y else .any) _
     split
     · exact hv
     · trivial)
   have hb := (ev.down (b := l.length) (by omega)).trans q2
   exact ⟨v, S2, y', _, he, q1.trans hw, ⟨hb.base, hb.os, hb.tape, hb.output, hb.size, hb.kept, hb.im, hb.keep, hb.fresh, by rw [hn]; exact hb.n, fun g hg => hb.cur g (by omega), fun g hg => hb.same g (by omega)⟩, q3, q4 0, h2⟩⟩
theorem y00 {f m np b : Nat} {xs : List AV} {l : List Grp} {K : AV → z02 → Prop} {res : List ARes} {B : AC} (hf : z0h P f xs.length = some ⟨m, np, res, B⟩) (hb : b = l.length) (h : W P m b B (entry xs) (hl l) (Ret P res fun y H' => @Drop b y H' ⟨K⟩)) : z0z P f xs (hl l) K := by
 subst hb
 exact zdq (ztb hf (W_T h))
end
theorem y01 (env : Env) : setL env [] [] = env := rfl
theorem zvc (env : Env) (p : Nat) (ps : List Nat) (x : AV) (r : List AV) : setL env (p :: ps) (x :: r) = setL (env.put (some p) x) ps r := rfl
attribute [push_cast] y01 zvc
section
variable {P : Program} {n b : Nat} {S : MS} {H : z02}
theorem put_defers (a : Act) (d : Option Nat) (v : Value) : (a.put d v).defers = a.defers := by cases d <;> rfl
theorem y9k (hS : SRel S H) {env : Env} {a : Act} (hF : FRel S n env a) {o : Oper} {q : AOp} {ops : Array Oper} (h : z1q P n ops o = some q) {K : AV → z02 → Prop} (hst : z05 P q.k H (q.vals env) K)
   {N : Act → World → Prop} {Q : Exit → Act → World → Prop} (hN : ∀ S' H' x a', Evo S S' → SRel S' H' → FRel S' n (env.put q.dst x) a' → a'.defers = a.defers → K x H' → N a' S'.w) (r : Option Nat) (m : Nat) : o.wpIn (fen r) m P a S.w N Q := by
 obtain ⟨h1, h2, h3, h4, _⟩ := z1c h
 have hargs := z97 hF h2
 have hsem : o.semAt (fen r).round a.eval = execOp a.eval o := Oper.semAt_eq _ _ _ fun c hc => by rw [hc] at h1; cases h1
 rcases zff hS o h1 (ρ := a.eval) hargs hst with ⟨v, S', x, H', hr, e, hS', hv, hK⟩ | ⟨f, cargs, hr, hc⟩
 · have hN' := fun v' (hv' : VRel S' x v') => hN S' H' x (a.put o.dst v') e hS' (by rw [h3]; exact (hF.mono e).put h4 hv') (put_defers _ _ _) hK
   refine ⟨fun _ _ => trivial, ?_⟩
   rw [hsem]
   rcases hr with hr | ⟨hr, rfl⟩ <;> rw [hr]
   · exact hN' v hv
   · exact hN' undef hv
 · refine ⟨fun _ _ => trivial, ?_⟩
   rw [hsem, hr, Oper.uponIn_enter]
   refine ⟨fun h => (by cases h), zjd (hc.mono fun e w' hh => ?_)⟩
   obtain ⟨v, S', x, H', rfl, rfl, ev, hS', hv, hK⟩ := hh
   exact hN S' H' x (a.put o.dst v) ev hS' (by rw [h3]; exact (hF.mono ev).put h4 hv) (put_defers _ _ _) hK
theorem z67 {ops : Array Oper} {Q : Exit → Act → World → Prop} {rd : Option Nat} {m : Nat} (tl : List Nat) : ∀ (l : List Oper) (l' : List AOp) (k : Nat), (∀ j, j < l.length → l[j]? = ops[k + j]?) → l.mapM (z1q P n ops) = some l' → ∀ {S : MS} {H : z02} {env : Env} {a : Act} {K : Env → z02 → Prop},
   SRel S H → FRel S n env a → runK P l' env H K → (∀ S' H' env' a', Evo S S' → SRel S' H' → FRel S' n env' a' → a'.defers = a.defers → K env' H' → wpOpsIn (fen rd) m P ops Q tl a' S'.w) → wpOpsIn (fen rd) m P ops Q (List.range' k l.length ++ tl) a S.w
 | [], l', k, _, hm, S, H, env, a, K, hS, hF, hr, hQ => by
   simp at hm
   subst hm
   exact hQ S H env a (.refl S) hS hF rfl hr
 | o :: l, l', k, hl, hm, S, H, env, a, K, hS, hF, hr, hQ => by
   rw [List.mapM_cons] at hm
   simp only [Option.bind_eq_bind, Option.bind_eq_some_iff, Option.pure_def, Option.some.injEq] at hm
   obtain ⟨q, hq, r, hrr, rfl⟩ := hm
   have h0 : ops[k]? = some o := by simpa using (hl 0 (by simp)).symm
   have hl' : ∀ j, j < l.length → l[j]? = ops[k + 1 + j]? := fun j hj => by have := hl (j + 1) (by simp; omega); simpa [Nat.add_assoc, Nat.add_comm 1 j] using this
   have hg := zck hq hF hr
   rw [show List.range' k (o :: l).length ++ tl = k :: (List.range' (k + 1) l.length ++ tl) from rfl]
   simp only [wpOpsIn, h0]
   cases hw : Region.wanted o (yielded ops a.tmps)
   · rw [hw] at hg
     simp only [Bool.false_eq_true, if_false] at hg ⊢
     obtain ⟨_, _, h3, h4, _⟩ := z1c hq
     exact ⟨fun _ _ => trivial, z67 tl l r (k + 1) hl' hrr hS (by rw [h3]; exact hF.put h4 z98) hg (fun S' H' env' a' e hS' hF' hd => hQ S' H' env' a' e hS' hF' (hd.trans (put_defers _ _ _)))⟩
   · rw [hw] at hg
     simp only [if_true] at hg ⊢
     refine y9k hS hF hq hg (fun S' H' x a' e hS' hF' hd hK => ?_) rd m
     exact z67 tl l r (k + 1) hl' hrr hS' hF' hK (fun S2 H2 env2 a2 e2 hS2 hF2 hd2 hK2 => hQ S2 H2 env2 a2 (e.trans e2) hS2 hF2 (hd2.trans hd) hK2)
end
structure Itr where
 P : Program
 l : Nat
 m : Nat
 rows : List (List AV)
 S0 : MS
 J : Nat → (Nat → Prop) → World → Prop
 Jx : Nat → (Nat → Prop) → World → Prop
 cJ : Clo J
 cx : Clo Jx
 fact : ∀ k O W, J k O W ∨ Jx k O W → (∀ b, S0.im b → ¬ O b ∧ W.heap[b]? = S0.w.heap[b]?) ∧ (W.os = S0.w.os ∧ W.tape = S0.w.tape ∧ W.output = S0.w.output) ∧ S0.w.heap.size ≤ W.heap.size ∧ ∀ b, O b → S0.w.heap.size ≤ b ∧ b < W.heap.size
 round : ∀ k row O W, rows[k]? = some row → J k O W → YieldAt Fence.wide m P l (encI row) W fun e W' => W.heap.size ≤ W'.heap.size ∧ (∀ b, O b → W'.heap[b]? = W.heap[b]?) ∧ (e = .returned (.bool true) ∧ J (k + 1) O W' ∨ e = .returned (.bool false) ∧ Jx (k + 1) O W')
namespace Itr
def at_ (I : Itr) : Option Nat → (Nat → Prop) → World → Prop
 | some k, O, W => I.J k O W
 | none, O, W => ∃ k, I.Jx k O W
structure Now (I : Itr) (s : Option Nat) (X : Nat → Prop) (S : MS) (H : z02) : Prop where
 rel : SRel S H
 base : S.base ≤ S.w.heap.size
 keep : ∀ b, X b → S.keep b
 im : ∀ b, I.S0.im b → S.im b
 apart : ∀ b, S.im b → I.S0.im b ∨ ¬ X b
 st : I.at_ s (fun b => b < S.w.heap.size ∧ ¬ X b ∧ ¬ I.S0.im b) S.w
theorem Now.on {I : Itr} {s : Option Nat} {X : Nat → Prop} {S S' : MS} {H H' : z02} (h : I.Now s X S H) (e : Evo S S') (hr : SRel S' H') : I.Now s X S' H' := by
 have hX : ∀ b, X b → b < S.w.heap.size := fun b hb => h.rel.im b (.inr (h.keep b hb))
 have hi0 : ∀ b, I.S0.im b → b < S.w.heap.size := fun b hb => h.rel.im b (.inl (h.im b hb))
 refine ⟨hr, by rw [e.base]; exact Nat.le_trans h.base e.size, fun b hb => e.keep b (h.keep b hb), fun b hb => e.im b (h.im b hb), fun b hb => ?_, ?_⟩
 · rcases e.fresh b hb with hh | hh
   · exact h.apart b hh
   · exact .inr fun hx => hh (h.keep b hx)
 · have ho : (fun b => b < S'.w.heap.size ∧ ¬ X b ∧ ¬ I.S0.im b) = fun b => (b < S.w.heap.size ∧ ¬ X b ∧ ¬ I.S0.im b) ∨ (S.w.heap.size ≤ b ∧ b < S'.w.heap.size) := by
     funext b
     refine propext ⟨fun ⟨h1, h2, h3⟩ => ?_, fun hh => ?_⟩
     · rcases Nat.lt_or_ge b S.w.heap.size with hl | hl
       · exact .inl ⟨hl, h2, h3⟩
       · exact .inr ⟨hl, h1⟩
     · rcases hh with ⟨h1, h2, h3⟩ | ⟨h1, h2⟩
       · exact ⟨Nat.lt_of_lt_of_le h1 e.size, h2, h3⟩
       · exact ⟨h2, fun hx => by have := hX b hx; omega, fun hx => by have := hi0 b hx; omega⟩
   rw [ho]
   have hk : ∀ b, b < S.w.heap.size → ¬ (b < S.w.heap.size ∧ ¬ X b ∧ ¬ I.S0.im b) → S'.w.heap[b]? = S.w.heap[b]? := fun b hb hn => by
     by_cases hx : X b
     · exact e.kept b (.inr (h.keep b hx))
     · by_cases hi : I.S0.im b
       · exact e.kept b (.inl (h.im b hi))
       · exact absurd ⟨hb, hx, hi⟩ hn
   cases s with
   | some k => exact I.cJ k _ _ _ h.st e.os e.tape e.output e.size hk
   | none => obtain ⟨k, hj⟩ := h.st; exact ⟨k, I.cx k _ _ _ hj e.os e.tape e.output e.size hk⟩
theorem Now.round {I : Itr} {k : Nat} {X : Nat → Prop} {S : MS} {H : z02} (h : I.Now (some k) X S H) {W' : World} {s' : Option Nat} (hsz : S.w.heap.size ≤ W'.heap.size) (ho : ∀ b, b < S.w.heap.size ∧ ¬ X b ∧ ¬ I.S0.im b → W'.heap[b]? = S.w.heap[b]?)
   (hi : ∀ b, I.S0.im b → W'.heap[b]? = S.w.heap[b]?) (hst : I.at_ s' (fun b => b < S.w.heap.size ∧ ¬ X b ∧ ¬ I.S0.im b) W') :
   ∃ S', S'.w = W' ∧ I.Now s' (fun b => X b ∨ (S.w.heap.size ≤ b ∧ b < W'.heap.size)) S' H ∧ Evi S S' := by
 obtain ⟨S', hd⟩ : ∃ S' : MS, S' = { S with w := W', keep := fun b => S.keep b ∨ (S.w.heap.size ≤ b ∧ b < W'.heap.size) } := ⟨_, rfl⟩
 have hX : ∀ b, X b → b < S.w.heap.size := fun b hb => h.rel.im b (.inr (h.keep b hb))
 have him : ∀ b, S.im b → b < S.w.heap.size := fun b hb => h.rel.im b (.inl hb)
 have hi0 : ∀ b, I.S0.im b → b < S.w.heap.size := fun b hb => him b (h.im b hb)
 have hw : ∀ b, S.im b → W'.heap[b]? = S.w.heap[b]? := fun b hb => by
   by_cases h0 : I.S0.im b
   · exact hi b h0
   · exact ho b ⟨him b hb, (h.apart b hb).resolve_left h0, h0⟩
 refine ⟨S', by rw [hd], ⟨?_, ?_, ?_, ?_, ?_, ?_⟩, ?_⟩
 · subst hd
   exact h.rel.turn2 hw rfl rfl rfl rfl rfl rfl (fun b hb => hb.imp id And.left) (fun b hb => hb.elim (fun hh => Nat.lt_of_lt_of_le (h.rel.im b (.inr hh)) hsz) And.right)
     (fun b hb hl => ho b ⟨hl, fun hx => hb (.inr (h.keep b hx)), fun hx => hb (.inl (h.im b hx))⟩) hsz
 · subst hd; exact Nat.le_trans h.base hsz
 · subst hd; exact fun b hb => hb.imp (h.keep b) id
 · subst hd; exact h.im
 · subst hd
   intro b hb
   rcases h.apart b hb with hh | hh
   · exact .inl hh
   · exact .inr fun hx => hx.elim hh fun hx => by have := him b hb; omega
 · subst hd
   have e : (fun b => b < W'.heap.size ∧ ¬ (X b ∨ (S.w.heap.size ≤ b ∧ b < W'.heap.size)) ∧ ¬ I.S0.im b) = fun b => b < S.w.heap.size ∧ ¬ X b ∧ ¬ I.S0.im b := by
     funext b
     refine propext ⟨fun ⟨h1, h2, h3⟩ => ⟨?_, fun hx => h2 (.inl hx), h3⟩, fun ⟨h1, h2, h3⟩ => ⟨by omega, fun hx => hx.elim h2 (fun hh => by omega), h3⟩⟩
     rcases Nat.lt_or_ge b S.w.heap.size with hl | hl
     · exact hl
     · exact absurd (.inr ⟨hl, h1⟩) h2
   show I.at_ s' _ W'
   rw [e]
   exact hst
 · subst hd
   exact Evi.of hw rfl rfl rfl rfl rfl rfl
end Itr
def za0 (I : Itr) (n : Nat) (Q : Option Nat → Ex → Env → z02 → Prop) (e : Exit) (a : Act) (w : World) : Prop :=
 ∃ S' env H' x s X, S'.w = w ∧ I.Now s X S' H' ∧ FRel S' n env a ∧ a.defers = [] ∧ e = Ex.up x ∧ Q s x env H'
def TI (I : Itr) (n : Nat) (c : AC) (s : Option Nat) (env : Env) (H : z02) (Q : Option Nat → Ex → Env → z02 → Prop) : Prop :=
 ∀ code, z2w I.P n code = some c → ∀ S a X, I.Now s X S H → FRel S n env a → a.defers = [] → code.wpIn (fen none) (I.m + 1) I.P (za0 I n Q) a S.w
section
variable {I : Itr} {n : Nat} {s : Option Nat} {env : Env} {H : z02} {Q : Option Nat → Ex → Env → z02 → Prop}
theorem y02 {F : Fence} {mm : Nat} {c : Code} {a : Act} {w : World} (h : c.wpIn F mm I.P (za0 I n Q) a w) : (Code.scope c).wpIn F mm I.P (za0 I n Q) a w := by
 refine z5c (wpIn_mono h fun e a w hh => ?_)
 obtain ⟨S2, env, H', y, s, X, h1, h2, h3, h4, h5, h6⟩ := hh
 subst h5
 cases y <;> exact ⟨S2, env, H', _, s, X, h1, h2, h3, h4, rfl, h6⟩
theorem zi8 {c : AC} (h : ∀ code, z2w I.P n code = some c → (∀ d, code ≠ .scope d) → ∀ S a X, I.Now s X S H → FRel S n env a → a.defers = [] → code.wpIn (fen none) (I.m + 1) I.P (za0 I n Q) a S.w) : TI I n c s env H Q := by
 intro code
 induction code with
 | scope d ih => exact fun hc S a X hN hF hd => y02 (ih (by simpa [z2w] using hc) S a X hN hF hd)
 | skip => exact fun hc => h _ hc (by simp)
 | region => exact fun hc => h _ hc (by simp)
 | seq => exact fun hc => h _ hc (by simp)
 | cond => exact fun hc => h _ hc (by simp)
 | block => exact fun hc => h _ hc (by simp)
 | loop => exact fun hc => h _ hc (by simp)
 | rangeFunc => exact fun hc => h _ hc (by simp)
 | exit => exact fun hc => h _ hc (by simp)
 | label => exact fun hc => h _ hc (by simp)
 | goto => exact fun hc => h _ hc (by simp)
 | ret => exact fun hc => h _ hc (by simp)
 | refuse => exact fun hc => h _ hc (by simp)
theorem y5r (h : Q s .normal env H) : TI I n .skip s env H Q := zi8 fun code hc hs S a X hN hF hd => by
 have hA : za0 I n Q .normal a S.w := ⟨S, env, H, .normal, s, X, rfl, hN, hF, hd, rfl, h⟩
 cases code <;> simp only [z2w, reduceCtorEq, Option.some.injEq] at hc
 case skip => exact wpIn_skip hA
 case label => exact wpIn_label hA
 case region => exact absurd hc z1x
 case seq => split at hc <;> cases hc
 case cond => split at hc <;> cases hc
 case block => obtain ⟨_, _, h⟩ := Option.map_eq_some_iff.1 hc; cases h
 case loop => obtain ⟨_, _, h⟩ := Option.map_eq_some_iff.1 hc; cases h
 case rangeFunc => split at hc <;> cases hc
 case scope d => exact absurd rfl (hs d)
theorem y5s {id : Nat} (h : Q s (.exit id) env H) : TI I n (.exit id) s env H Q := zi8 fun code hc hs S a X hN hF hd => by
 cases code <;> simp only [z2w, reduceCtorEq, Option.some.injEq] at hc
 case exit k => cases hc; exact wpIn_exit ⟨S, env, H, .exit id, s, X, rfl, hN, hF, hd, rfl, h⟩
 case region => exact absurd hc z1x
 case seq => split at hc <;> cases hc
 case cond => split at hc <;> cases hc
 case block => obtain ⟨_, _, h⟩ := Option.map_eq_some_iff.1 hc; cases h
 case loop => obtain ⟨_, _, h⟩ := Option.map_eq_some_iff.1 hc; cases h
 case rangeFunc => split at hc <;> cases hc
 case scope d => exact absurd rfl (hs d)
theorem y9l (h : Q s .ret env H) : TI I n .ret s env H Q := zi8 fun code hc hs S a X hN hF hd => by
 cases code <;> simp only [z2w, reduceCtorEq, Option.some.injEq] at hc
 case ret => exact wpIn_ret ⟨S, env, H, .ret, s, X, rfl, hN, hF, hd, rfl, h⟩
 case region => exact absurd hc z1x
 case seq => split at hc <;> cases hc
 case cond => split at hc <;> cases hc
 case block => obtain ⟨_, _, h⟩ := Option.map_eq_some_iff.1 hc; cases h
 case loop => obtain ⟨_, _, h⟩ := Option.map_eq_some_iff.1 hc; cases h
 case rangeFunc => split at hc <;> cases hc
 case scope d => exact absurd rfl (hs d)
def Ex.thenI (K : Option Nat → Env → z02 → Prop) (Q : Option Nat → Ex → Env → z02 → Prop) : Option Nat → Ex → Env → z02 → Prop
 | s, .normal, env, H => K s env H
 | s, x, env, H => Q s x env H
theorem z8i {x y : AC} (h : TI I n x s env H (Ex.thenI (fun s' env' H' => TI I n y s' env' H' Q) Q)) : TI I n (.seq x y) s env H Q := zi8 fun code hc hs S a X hN hF hd => by
 cases code <;> simp only [z2w, reduceCtorEq, Option.some.injEq] at hc
 case seq c d =>
   split at hc
   · rename_i x' y' hx hy
     cases hc
     refine wpIn_seq (wpIn_mono (h c hx S a X hN hF hd) fun e a' w' hh => ?_)
     obtain ⟨S2, env2, H2, z, s2, X2, rfl, hN2, hF2, hd2, rfl, hq⟩ := hh
     cases z with
     | normal => exact hq d hy S2 a' X2 hN2 hF2 hd2
     | exit id => exact ⟨S2, env2, H2, .exit id, s2, X2, rfl, hN2, hF2, hd2, rfl, hq⟩
     | ret => exact ⟨S2, env2, H2, .ret, s2, X2, rfl, hN2, hF2, hd2, rfl, hq⟩
   · cases hc
 case region => exact absurd hc z1x
 case cond => split at hc <;> cases hc
 case block => obtain ⟨_, _, h⟩ := Option.map_eq_some_iff.1 hc; cases h
 case loop => obtain ⟨_, _, h⟩ := Option.map_eq_some_iff.1 hc; cases h
 case rangeFunc => split at hc <;> cases hc
 case scope d => exact absurd rfl (hs d)
theorem y5t {c : AArg} {x y : AC} {q : Bool} (hc : c.eval env = .bool q) (ht : q = true → TI I n x s env H Q) (hf : q = false → TI I n y s env H Q) : TI I n (.cond c x y) s env H Q := zi8 fun code hcc hs S a X hN hF hd => by
 cases code <;> simp only [z2w, reduceCtorEq, Option.some.injEq] at hcc
 case cond z p q' =>
   split at hcc
   · rename_i z' p2 q2 hz hp hq
     cases hcc
     have hv := zhd hF hz
     rw [hc] at hv
     exact wpIn_cond_split (t := q) hv (fun hbb => ht hbb p hp S a X hN hF hd) (fun hbb => hf hbb q' hq S a X hN hF hd)
   · cases hcc
 case region => exact absurd hcc z1x
 case seq => split at hcc <;> cases hcc
 case block => obtain ⟨_, _, h⟩ := Option.map_eq_some_iff.1 hcc; cases h
 case loop => obtain ⟨_, _, h⟩ := Option.map_eq_some_iff.1 hcc; cases h
 case rangeFunc => split at hcc <;> cases hcc
 case scope d => exact absurd rfl (hs d)
def Ex.inBlockI (id : Nat) (Q : Option Nat → Ex → Env → z02 → Prop) : Option Nat → Ex → Env → z02 → Prop
 | s, .exit k, env, H => if k = id then Q s .normal env H else Q s (.exit k) env H
 | s, x, env, H => Q s x env H
theorem za1 {id : Nat} {c : AC} (h : TI I n c s env H (Ex.inBlockI id Q)) : TI I n (.block id c) s env H Q := zi8 fun code hc hs S a X hN hF hd => by
 cases code <;> simp only [z2w, reduceCtorEq, Option.some.injEq] at hc
 case block k d =>
   obtain ⟨x, hx, hh⟩ := Option.map_eq_some_iff.1 hc
   cases hh
   refine wpIn_block (wpIn_mono (h d hx S a X hN hF hd) fun e a' w' hh => ?_)
   obtain ⟨S2, env2, H2, z, s2, X2, h1, hN2, hF2, hd2, rfl, hq⟩ := hh
   cases z with
   | normal => exact ⟨S2, env2, H2, .normal, s2, X2, h1, hN2, hF2, hd2, rfl, hq⟩
   | exit j =>
     simp only [Ex.up, Exit.inBlock]
     simp only [Ex.inBlockI] at hq
     split
     · rename_i hj; rw [if_pos hj] at hq; exact ⟨S2, env2, H2, .normal, s2, X2, h1, hN2, hF2, hd2, rfl, hq⟩
     · rename_i hj; rw [if_neg hj] at hq; exact ⟨S2, env2, H2, .exit j, s2, X2, h1, hN2, hF2, hd2, rfl, hq⟩
   | ret => exact ⟨S2, env2, H2, .ret, s2, X2, h1, hN2, hF2, hd2, rfl, hq⟩
 case region => exact absurd hc z1x
 case seq => split at hc <;> cases hc
 case cond => split at hc <;> cases hc
 case loop => obtain ⟨_, _, h⟩ := Option.map_eq_some_iff.1 hc; cases h
 case rangeFunc => split at hc <;> cases hc
 case scope d => exact absurd rfl (hs d)
theorem zvd {σ : Type} (Inv : σ → Option Nat → Env → z02 → Prop) (μ : σ → Nat) {c : AC} (s0 : σ) (h0 : Inv s0 s env H)
   (round : ∀ t s env H, Inv t s env H → TI I n c s env H (Ex.thenI (fun s' env' H' => ∃ t', Inv t' s' env' H' ∧ μ t' < μ t) Q)) : TI I n (.loop c) s env H Q := zi8 fun code hc hs S a X hN hF hd => by
 cases code <;> simp only [z2w, reduceCtorEq, Option.some.injEq] at hc
 case loop d =>
   obtain ⟨x, hx, hh⟩ := Option.map_eq_some_iff.1 hc
   cases hh
   refine wpIn_loop_ghost (fun k a w => ∃ S' t s env H X, S'.w = w ∧ I.Now s X S' H ∧ FRel S' n env a ∧ a.defers = [] ∧ Inv t s env H ∧ μ t = k) (μ s0) ⟨S, s0, s, env, H, X, rfl, hN, hF, hd, h0, rfl⟩ ?_
   rintro k a w ⟨S1, t, s1, env1, H1, X1, rfl, hN1, hF1, hd1, hI, rfl⟩
   refine wpIn_mono (round t s1 env1 H1 hI d hx S1 a X1 hN1 hF1 hd1) fun e a' w' hh => ?_
   obtain ⟨S2, env2, H2, z, s2, X2, rfl, hN2, hF2, hd2, rfl, hq⟩ := hh
   cases z with
   | normal =>
     obtain ⟨t', h1, h2⟩ := hq
     exact ⟨μ t', h2, S2, t', s2, env2, H2, X2, rfl, hN2, hF2, hd2, h1, rfl⟩
   | exit id => exact ⟨S2, env2, H2, .exit id, s2, X2, rfl, hN2, hF2, hd2, rfl, hq⟩
   | ret => exact ⟨S2, env2, H2, .ret, s2, X2, rfl, hN2, hF2, hd2, rfl, hq⟩
 case region => exact absurd hc z1x
 case seq => split at hc <;> cases hc
 case cond => split at hc <;> cases hc
 case block => obtain ⟨_, _, h⟩ := Option.map_eq_some_iff.1 hc; cases h
 case rangeFunc => split at hc <;> cases hc
 case scope d => exact absurd rfl (hs d)
theorem y9m {ops : List AOp} (h : runK I.P ops env H fun env' H' => Q s .normal env' H') : TI I n (.reg ops) s env H Q := zi8 fun code hc hs S a X hN hF hd => by
 cases code <;> simp only [z2w, reduceCtorEq, Option.some.injEq] at hc
 case region id l draw =>
   split at hc
   · rename_i r hr
     obtain ⟨hd', rfl⟩ := z8o hc
     subst hd'
     refine wpIn_region ?_
     have := z67 (ops := l) (rd := none) (m := I.m + 1) (Q := za0 I n Q) [] l.toList ops 0 (by simp) hr hN.rel hF h (fun S' H' env' a' e hS' hF' hdd hK => ⟨S', env', H', .normal, s, X, rfl, hN.on e hS', hF', hdd.trans hd, rfl, hK⟩)
     rw [List.range_eq_range']
     simpa using this
   · cases hc
 case seq => split at hc <;> cases hc
 case cond => split at hc <;> cases hc
 case block => obtain ⟨_, _, h⟩ := Option.map_eq_some_iff.1 hc; cases h
 case loop => obtain ⟨_, _, h⟩ := Option.map_eq_some_iff.1 hc; cases h
 case rangeFunc => split at hc <;> cases hc
 case scope d => exact absurd rfl (hs d)
theorem zg0 {α β : Type} {f : α → Option β} : ∀ (p : List β) {l : List α} {y : β} {q : List β}, l.mapM f = some (p ++ y :: q) → ∃ l1 o l2, l = l1 ++ o :: l2 ∧ l1.mapM f = some p ∧ f o = some y ∧ l2.mapM f = some q
 | [], l, y, q, h => by
   cases l with
   | nil => simp at h
   | cons o l =>
     rw [List.mapM_cons] at h
     simp only [Option.bind_eq_bind, Option.bind_eq_some_iff, Option.pure_def, Option.some.injEq, List.nil_append, List.cons.injEq] at h
     obtain ⟨y', hy, r, hr, rfl, rfl⟩ := h
     exact ⟨[], o, l, rfl, rfl, hy, hr⟩
 | z :: p, l, y, q, h => by
   cases l with
   | nil => simp at h
   | cons o l =>
     rw [List.mapM_cons] at h
     simp only [Option.bind_eq_bind, Option.bind_eq_some_iff, Option.pure_def, Option.some.injEq, List.cons_append, List.cons.injEq] at h
     obtain ⟨z', hz, r, hr, rfl, rfl⟩ := h
     obtain ⟨l1, o', l2, rfl, h1, h2, h3⟩ := zg0 p hr
     exact ⟨o :: l1, o', l2, rfl, by rw [List.mapM_cons, hz, h1]; rfl, h2, h3⟩
theorem zrh {P : Program} {op : Op} (h : z4y P op = some .call) : ∃ g args argTypes, op = .call { callee := .value g, args, argTypes } := by
 cases op
 case call c =>
   obtain ⟨callee, args, argTypes⟩ := c
   cases callee <;> simp only [z4y, z4q, reduceCtorEq] at h
   case value g => exact ⟨g, args, argTypes, rfl⟩
   case builtin b =>
     repeat' split at h
     all_goals first
       | (cases h; done)
       | (simp at h; done)
 all_goals simp only [z4y, reduceCtorEq] at h
 all_goals repeat' split at h
 all_goals first
   | contradiction
   | (cases h; done)
   | (obtain ⟨⟨_, _⟩, _, h⟩ := Option.map_eq_some_iff.1 h; cases h; done)
   | (obtain ⟨_, _, h⟩ := Option.map_eq_some_iff.1 h; cases h; done)
   | (simp at h; done)
def y9n (x : AV) : Prop := ∀ S v, VRel S x v → v = valOf x
theorem zg1 {S : MS} : ∀ {xs : List AV} {vs : List Value}, (∀ x ∈ xs, y9n x) → z04 S xs vs → vs = xs.map valOf
 | [], vs, _, h => h
 | x :: xs, vs, hf, ⟨v, r, hv, h1, h2⟩ => by
   rw [hv, hf x (by simp) S v h1, zg1 (fun y hy => hf y (by simp [hy])) h2]
   rfl
theorem y03 {pre post : List AOp} {y : AOp} {k : Nat} (hk : y.k = .call) (hg : y.guard = none)
   (h : runK I.P pre env H fun env1 H1 => ∃ row, y.vals env1 = .yld I.l :: row ∧ (∀ x ∈ row, y9n x) ∧ I.rows[k]? = some row ∧
     runK I.P post (env1.put y.dst (.bool true)) H1 (fun env2 H2 => Q (some (k + 1)) .normal env2 H2) ∧ runK I.P post (env1.put y.dst (.bool false)) H1 (fun env2 H2 => Q none .normal env2 H2)) :
   TI I n (.reg (pre ++ y :: post)) (some k) env H Q := zi8 fun code hc hs S a X hN hF hd => by
 cases code <;> simp only [z2w, reduceCtorEq, Option.some.injEq] at hc
 case region id l draw =>
   split at hc
   · rename_i r hr
     obtain ⟨hd', hrr⟩ := z8o hc
     subst hrr
     subst hd'
     refine wpIn_region ?_
     obtain ⟨l1, o, l2, hl, h1, h2, h3⟩ := zg0 pre hr
     have hsz : l.size = l1.length + (l2.length + 1) := by rw [← Array.length_toList, hl]; simp
     rw [List.range_eq_range', hsz, List.range'_append_1 |>.symm]
     have hat : ∀ j : Nat, l[j]? = (l1 ++ o :: l2)[j]? := fun j => by rw [← hl, Array.getElem?_toList]
     refine z67 (ops := l) (rd := none) (m := I.m + 1) (Q := za0 I n Q) _ l1 pre 0 (fun j hj => by rw [Nat.zero_add, hat, List.getElem?_append_left hj]) h1 hN.rel hF h (fun S1 H1 env1 a1 e1 hS1 hF1 hd1 hK => ?_)
     obtain ⟨row, hv, hfx, hrow, ht, hff⟩ := hK
     have hN1 := hN.on e1 hS1
     have ho : l[l1.length]? = some o := by rw [hat]; simp
     rw [show List.range' (0 + l1.length) (l2.length + 1) = l1.length :: List.range' (l1.length + 1) l2.length from by rw [Nat.zero_add]; rfl]
     simp only [wpOpsIn, ho]
     obtain ⟨c1, c2, c3, c4, c5⟩ := z1c h2
     have hw : Region.wanted o (yielded l a1.tmps) = true := by
       rcases c5 with ⟨g1, _⟩ | ⟨j, want, d, g1, g2, _⟩
       · simp [Region.wanted, g1]
       · rw [hg] at g2; cases g2
     rw [hw]
     simp only [if_true]
     have hargs := z97 hF1 c2
     rw [show y.args.map (·.eval env1) = y.vals env1 from rfl, hv] at hargs
     rw [hk] at c1
     obtain ⟨g, args, argTypes, hop⟩ := zrh c1
     obtain ⟨fn, tm, asg, bd, hy, hR⟩ := I.round k row _ _ hrow hN1.st
     have hrun : (o.semAt (fen none).round a1.eval).run I.P S1.w = .ok (.round I.l fn tm asg bd) S1.w := by
       rw [show (fen none).round = none from rfl, Oper.semAt_none]
       rw [hop] at hargs
       have hargs' : z04 S1 (.yld I.l :: row) (a1.eval g :: args.toList.map a1.eval) := by simpa [Op.operands, Call.operands] using hargs
       obtain ⟨v, vs, hvv, hv1, hv2⟩ := hargs'
       cases hvv
       have hvs := zg1 hfx hv2
       have hv1' : a1.eval g = .func (.yield I.l) #[] #[] := hv1
       have e : args.map a1.eval = encI row := by apply Array.ext'; simp [hvs]
       have hex : execOp a1.eval o = (do let d ← Deferred.ofValue (a1.eval g) (args.map a1.eval); invoke d.target d.args : Sem Next) := by
         cases o
         simp only at hop
         subst hop
         rfl
       rw [hex, e, hv1']
       simp only [Deferred.ofValue, Sem.run_bind, Sem.run_pure, Result.andThen_ok, invoke]
       simpa using hy
     refine ⟨fun _ _ => trivial, ?_⟩
     rw [hrun, Oper.uponIn_round]
     refine ⟨fun h => (by cases h), ?_⟩
     refine RoundIn.mono (F := fen none) (n := I.m) hR fun e W' hh => ?_
     obtain ⟨hsz', ho', hcase⟩ := hh
     have hf0 := (I.fact k _ _ (.inl hN1.st)).1
     have hdef : a1.defers = [] := hd1.trans hd
     have hgo : ∀ (bv : Bool) (s' : Option Nat), I.at_ s' (fun b => b < S1.w.heap.size ∧ ¬ X b ∧ ¬ I.S0.im b) W' → (∀ b, I.S0.im b → W'.heap[b]? = I.S0.w.heap[b]?) →
         runK I.P post (env1.put y.dst (.bool bv)) H1 (fun env2 H2 => Q s' .normal env2 H2) → wpOpsIn (fen none) (I.m + 1) I.P l (za0 I n Q) (List.range' (l1.length + 1) l2.length) (a1.put o.dst (.bool bv)) W' := fun bv s' hst him hrk => by
       obtain ⟨S2, hw2, hN2, ev2⟩ := hN1.round hsz' ho' (fun b hb => (him b hb).trans ((hf0 b hb).2).symm) hst
       have hF2 : FRel S2 n env1 a1 := ⟨hF1.size, by rw [hdef]; exact Marks.nil hN2.base, fun i hi => VRel.moni ev2 _ (hF1.val i hi)⟩
       have hF3 := hF2.put (dst := y.dst) (by rw [c3]; exact c4) (x := .bool bv) (v := .bool bv) rfl
       rw [c3] at hF3
       rw [c3] at hrk
       rw [← hw2]
       have := z67 (ops := l) (rd := none) (m := I.m + 1) (Q := za0 I n Q) [] l2 post (l1.length + 1) (fun j hj => by rw [hat, List.getElem?_append_right (by omega), show l1.length + 1 + j - l1.length = j + 1 from by omega]; rfl) h3 hN2.rel hF3 hrk
         (fun S' H' env' a' e hS' hF' hdd hK => ⟨S', env', H', .normal, s', _, rfl, hN2.on e hS', hF', hdd.trans ((put_defers _ _ _).trans hdef), rfl, hK⟩)
       simpa using this
     rcases hcase with ⟨rfl, hj⟩ | ⟨rfl, hj⟩
     · exact hgo true (some (k + 1)) hj (fun b hb => ((I.fact _ _ _ (.inl hj)).1 b hb).2) ht
     · exact hgo false none ⟨_, hj⟩ (fun b hb => ((I.fact _ _ _ (.inr hj)).1 b hb).2) hff
   · cases hc
 case seq => split at hc <;> cases hc
 case cond => split at hc <;> cases hc
 case block => obtain ⟨_, _, h⟩ := Option.map_eq_some_iff.1 hc; cases h
 case loop => obtain ⟨_, _, h⟩ := Option.map_eq_some_iff.1 hc; cases h
 case rangeFunc => split at hc <;> cases hc
 case scope d => exact absurd rfl (hs d)
theorem y5u {P : Program} {gf : Nat} {caps : List AV} {rows : List (List AV)} {fn : AFn} (hf : z0h P gf (caps.length + 1) = some fn)
   (h : ∀ I : Itr, I.P = P → I.rows = rows → TI I fn.n fn.body (some 0) (entry (.yld I.l :: caps)) z02.nil (fun s x env H => Ret P fn.res (fun _ _ => True) x env H ∧ (s = some rows.length ∨ s = none))) : zot P gf caps rows := by
 refine ⟨enters_of hf, fun m l S0 lb J Jx hS0 hx0 cJ cx hj fact round => ?_⟩
 obtain ⟨F, c, hF, hb, hn, hc, hr, hnp, _⟩ := z8p hf
 obtain ⟨S, hSd⟩ : ∃ S : MS, S = { S0 with base := S0.w.heap.size, keep := fun b => b < S0.w.heap.size ∧ ¬ S0.im b } := ⟨_, rfl⟩
 have ev0 : Evi S0 S := by subst hSd; exact Evi.of (fun _ _ => rfl) rfl rfl rfl rfl rfl rfl
 have hw0 : S.w = S0.w := by rw [hSd]
 have hS : SRel S z02.nil := by
   subst hSd
   exact ⟨hS0.n, fun g hg => absurd hg (Nat.not_lt_zero _), fun g _ hg => absurd hg (Nat.not_lt_zero _), fun b hb => hb.elim (fun h => hS0.im b (.inl h)) And.left⟩
 have hx : z04 S caps lb := z04.moni ev0 _ hx0
 have hlen := hx.length
 let I : Itr := ⟨P, l, m, rows, S0, J, Jx, cJ, cx, fact, round⟩
 have hN : I.Now (some 0) (fun b => b < S0.w.heap.size ∧ ¬ S0.im b) S z02.nil := by
   refine ⟨hS, by rw [hSd]; exact Nat.le_refl _, fun b hb => by rw [hSd]; exact hb, fun b hb => by rw [hSd]; exact hb, fun b hb => .inl (by rw [hSd] at hb; exact hb), ?_⟩
   have e : (fun b => b < S.w.heap.size ∧ ¬ (b < S0.w.heap.size ∧ ¬ S0.im b) ∧ ¬ I.S0.im b) = fun _ => False := by
     funext b
     refine propext ⟨fun ⟨h1, h2, h3⟩ => h2 ⟨by rw [hw0] at h1; exact h1, h3⟩, False.elim⟩
   rw [e, hw0]
   exact hj
 refine callsIn_of_wp_marks (F := Fence.wide) (n := m + 1) hF hb trivial ?_
 have hfr : FRel S fn.n (entry (.yld l :: caps)) { tmps := (#[Value.func (.yield l) #[] #[]] ++ lb.toArray) ++ Array.replicate (F.ntmps - (#[Value.func (.yield l) #[] #[]] ++ lb.toArray).size) undef, defers := [] } := by
   have hx' : z04 S (.yld l :: caps) (.func (.yield l) #[] #[] :: lb) := ⟨_, _, rfl, rfl, hx⟩
   refine ⟨by simp; omega, Marks.nil hN.base, fun i hi => ?_⟩
   by_cases hlt : i < (AV.yld l :: caps).length
   · obtain ⟨v, hv, hr⟩ := hx'.get (List.getElem?_eq_getElem hlt)
     have e1 : entry (.yld l :: caps) i = (AV.yld l :: caps)[i] := by simp [entry, List.getD, List.getElem?_eq_getElem hlt]
     have e2 : ((#[Value.func (.yield l) #[] #[]] ++ lb.toArray) ++ Array.replicate (F.ntmps - (#[Value.func (.yield l) #[] #[]] ++ lb.toArray).size) undef).getD i undef = v := by
       have hsz : i < (#[Value.func (.yield l) #[] #[]] ++ lb.toArray).size := by simp at hlt ⊢; omega
       rw [Array.getD_eq_getD_getElem?, Array.getElem?_append_left hsz]
       have : (#[Value.func (.yield l) #[] #[]] ++ lb.toArray)[i]? = (Value.func (.yield l) #[] #[] :: lb)[i]? := by simp
       rw [this, hv]; rfl
     rw [e1, e2]
     exact hr
   · have e1 : entry (.yld l :: caps) i = .any := by simp [entry, List.getD, List.getElem?_eq_none (Nat.le_of_not_lt hlt)]
     rw [e1]
     trivial
 rw [← hw0]
 refine wpIn_mono (h I rfl rfl c hc S _ _ hN hfr rfl) fun e a w' hh => ?_
 obtain ⟨S2, env2, H2, z, s2, X2, rfl, hN2, hF2, hd2, rfl, ⟨hq, hres⟩, hst⟩ := hh
 have fin : LeavesInM Fence.wide (m + 1) P F a.tmps (fun e W' => (∃ v, e = .returned v) ∧ ((∃ O, J rows.length O W') ∨ ∃ k O, Jx k O W')) a.defers .returning S2.w := by
   rw [hd2]
   refine z72 [] S2.w List.nodup_nil (fun D hd => by cases hd) ?_
   obtain ⟨vs, ys, h1, h2, h3⟩ := z7u hN2.rel hF2 hr hres
   refine ⟨if h : vs.toArray.size = 1 then vs.toArray[0] else .tuple vs.toArray, ?_, ⟨_, rfl⟩, ?_⟩
   · have e : results F a.tmps = (do let vs ← F.results.mapM (zfo a.tmps); pure (if h : vs.size = 1 then vs[0] else .tuple vs)) := by
       unfold results
       congr
     rw [e, Array.mapM_eq_mapM_toList]
     show Sem.run P _ S2.w = _
     simp only [Sem.run_bind, Sem.run_map, h1, Result.andThen_ok, Sem.run_pure]
     rfl
   · have := hN2.st
     rcases hst with rfl | rfl
     · exact .inl ⟨_, this⟩
     · obtain ⟨k, hk⟩ := this; exact .inr ⟨k, _, hk⟩
 cases z with
 | normal => exact fin
 | exit id => exact hq.elim
 | ret => exact fin
end
end Go.Proofs.Yticodgjinajkpaa.Abs
namespace Go.Proofs.Yticodgjinajkpaa
open Abs
def domL (s : Int) : List Span := if s = 1 then [⟨0, 255⟩] else if s = 2 then [⟨0, 55295⟩, ⟨57344, 1114111⟩] else []
theorem z5b (a : Int) : PC Try.prog 58 [.int .i64 a] (z1t ⟨a, 0, 21, 0⟩) := by
 refine z0t zkf ?_
 unfold zbh
 (repeat' (first | (simp (disch := omega) only [push_cast, ↓zz, seval]) | (with_reducible first | refine And.intro ?_ ?_ | (first | refine z01 ?_ ?_ | refine z00 ?_ ?_) <;> intro hc <;> (try simp only [push_cast] at hc)) | omega | with_reducible intro _))
def z2o (p : Part) : Bool := decide (0 ≤ p.drop ∧ p.drop < 21 ∧ 1 ≤ p.take ∧ p.take ≤ 21 ∧ 0 ≤ p.up ∧ p.up < 21 ∧ (p.up = 0 ∨ p.take ≤ 6))
theorem z68 (p : Part) : PC Try.prog 99 [z1t p] (.bool (z2o p)) := by
 refine z0t zms ?_
 unfold zdj
 (repeat' (first | (simp (disch := omega) only [push_cast, ↓zz, seval]) | (with_reducible first | refine And.intro ?_ ?_ | (first | refine z01 ?_ ?_ | refine z00 ?_ ?_) <;> intro hc <;> (try simp only [push_cast] at hc)) | omega | with_reducible intro _))
 all_goals (unfold z2o; first | (refine zjt ?_; omega) | (refine zju ?_; omega) | (refine zai ?_; omega))
theorem z7y (p : Part) : PC Try.prog 104 [z1t p] (.bool (z2o p)) := by
 refine z0t zkq ?_
 unfold zbt
 (repeat' (first | (simp (disch := omega) only [push_cast, ↓zz, seval]) | (with_reducible first | refine And.intro ?_ ?_ | (first | refine z01 ?_ ?_ | refine z00 ?_ ?_) <;> intro hc <;> (try simp only [push_cast] at hc)) | omega | with_reducible intro _))
 all_goals (unfold z2o; first | (refine zjt ?_; omega) | (refine zju ?_; omega) | (refine zai ?_; omega))
def z2t (p : Part) (n : Int) : Bool := decide (0 ≤ p.at_ ∧ p.at_ < n) && z2o p
theorem z7z (p : Part) (n : Int) : PC Try.prog 78 [z1t p, .int .i64 n] (.bool (z2t p n)) := by
 refine z0t zkj ?_
 unfold zbl
 (repeat' (first | (simp (disch := omega) only [push_cast, ↓zz, seval]) | (with_reducible first | refine And.intro ?_ ?_ | (first | refine z01 ?_ ?_ | refine z00 ?_ ?_) <;> intro hc <;> (try simp only [push_cast] at hc)) | (have q_ := z68 p; (with_reducible first | refine eK q_ ?_ | refine eQ q_ ?_ | refine eG q_ ?_); clear q_) | (have q_ := z68 p; (with_reducible first | refine cK q_ ?_ | refine cQ q_ ?_ | refine cG q_ ?_); clear q_; (simp (disch := omega) only [push_cast, ↓zz, seval]); (fail_if_success (with_reducible change False))) | omega | with_reducible intro _))
 all_goals (simp [z2t, *] <;> omega)
theorem zdr (p : Part) (n : Int) : PC Try.prog 86 [z1t p, .int .i64 n] (.bool (z2t p n)) := by
 refine z0t zhy ?_
 unfold z9r
 (repeat' (first | (simp (disch := omega) only [push_cast, ↓zz, seval]) | (with_reducible first | refine And.intro ?_ ?_ | (first | refine z01 ?_ ?_ | refine z00 ?_ ?_) <;> intro hc <;> (try simp only [push_cast] at hc)) | (have q_ := z7y p; (with_reducible first | refine eK q_ ?_ | refine eQ q_ ?_ | refine eG q_ ?_); clear q_) | (have q_ := z7y p; (with_reducible first | refine cK q_ ?_ | refine cQ q_ ?_ | refine cG q_ ?_); clear q_; (simp (disch := omega) only [push_cast, ↓zz, seval]); (fail_if_success (with_reducible change False))) | omega | with_reducible intro _))
 all_goals (simp [z2t, *] <;> omega)
theorem y9o (i : Nat) (h : i ≤ 40) : (1 : Int) ≤ 2 ^ i ∧ (2 : Int) ^ i ≤ 1099511627776 :=
 ⟨Int.pow_pos (by decide), by have := Nat.pow_le_pow_right (n := 2) (by decide) h; have e : ((2 ^ i : Nat) : Int) = 2 ^ i := by simp
                              rw [← e]; omega⟩
theorem z6o (n : Int) (h : 0 ≤ n ∧ n ≤ 40) : PC Try.prog 73 [.int .i64 n] (.int .i64 (2 ^ n.toNat)) := by
 refine z0t zml ?_
 unfold zdb
 (repeat' (first | (simp (disch := omega) only [push_cast, ↓zz, seval]) | (with_reducible first | refine And.intro ?_ ?_ | (first | refine z01 ?_ ?_ | refine z00 ?_ ?_) <;> intro hc <;> (try simp only [push_cast] at hc)) | omega | with_reducible intro _))
 refine z0i (z0j (fun (i : Nat) => (i : Int) ≤ n) (fun i => n.toNat - i) (fun i => [(0, .int .i64 n), (3, .int .i64 (2 ^ i)), (4, .int .i64 i)]) (fun _ => []) (fun _ _ => []) 0 (by omega) ?_ ?_)
 · (repeat' (first | (simp (disch := omega) only [push_cast, ↓zz, seval]) | (with_reducible first | refine And.intro ?_ ?_ | (first | refine z01 ?_ ?_ | refine z00 ?_ ?_) <;> intro hc <;> (try simp only [push_cast] at hc)) | omega | with_reducible intro _))
 intro i hi
 refine W_T ?_
 have hp := y9o (i + 1)
 rw [Int.pow_succ] at hp
 (repeat' (first | (simp (disch := omega) only [push_cast, ↓zz, seval]) | (with_reducible first | refine And.intro ?_ ?_ | (first | refine z01 ?_ ?_ | refine z00 ?_ ?_) <;> intro hc <;> (try simp only [push_cast] at hc)) | omega | with_reducible intro _))
 · refine ⟨i + 1, ?_⟩
   have hp := hp (by omega)
   (repeat' (first | (simp (disch := omega) only [push_cast, ↓zz, seval, Int.pow_succ]) | (with_reducible first | refine And.intro ?_ ?_ | (first | refine z01 ?_ ?_ | refine z00 ?_ ?_) <;> intro hc <;> (try simp only [push_cast] at hc)) | omega | with_reducible intro _))
 · obtain rfl : n = i := by omega
   rfl
def valP (p : Part) (x : Int) : Int := x / 2 ^ p.drop.toNat % 2 ^ p.take.toNat * 2 ^ p.up.toNat
def valB (p : Part) (x : Int) : Bool := z2o p && decide (0 ≤ x ∧ x ≤ 2097151)
def val1 (p : Part) (x : Int) : Int := if valB p x then valP p x else 0
abbrev valV (p : Part) (x : Int) : AV := .tup [.int .i64 (val1 p x), .bool (valB p x)]
theorem z3d {p : Part} : z2o p = true ↔ (0 ≤ p.drop ∧ p.drop < 21 ∧ 1 ≤ p.take ∧ p.take ≤ 21 ∧ 0 ≤ p.up ∧ p.up < 21 ∧ (p.up = 0 ∨ p.take ≤ 6)) := by simp [z2o]
theorem z69 (d : Nat) (h : d ≤ 21) : (1 : Int) ≤ 2 ^ d ∧ (2 : Int) ^ d ≤ 2097152 :=
 ⟨Int.pow_pos (by decide), by have := Nat.pow_le_pow_right (n := 2) (by decide) h; have e : ((2 ^ d : Nat) : Int) = 2 ^ d := by simp
                              rw [← e]; omega⟩
theorem y04 {p : Part} {x : Int} (hb : z2o p = true) (hx : 0 ≤ x ∧ x ≤ 2097151) :
   IntKind.i64.wrap (z8a .and .i64 (x.fdiv (2 ^ min p.drop.toNat IntKind.i64.bits)) (IntKind.i64.wrap (IntKind.i64.wrap (1 * 2 ^ min p.take.toNat IntKind.i64.bits) - 1)) * 2 ^ min p.up.toNat IntKind.i64.bits) = valP p x := by
 rw [z3d] at hb
 have e1 : min p.drop.toNat IntKind.i64.bits = p.drop.toNat := Nat.min_eq_left (by show _ ≤ 64; omega)
 have e2 : min p.take.toNat IntKind.i64.bits = p.take.toNat := Nat.min_eq_left (by show _ ≤ 64; omega)
 have e3 : min p.up.toNat IntKind.i64.bits = p.up.toNat := Nat.min_eq_left (by show _ ≤ 64; omega)
 rw [e1, e2, e3]
 have hd := z69 p.drop.toNat (by omega)
 have ht := z69 p.take.toNat (by omega)
 have hu := z69 p.up.toNat (by omega)
 rw [Int.one_mul, IntWalk.i64_in (2 ^ p.take.toNat) (by omega), IntWalk.i64_in (2 ^ p.take.toNat - 1) (by omega), ztk _ _ (by omega)]
 have q0 : 0 ≤ x / 2 ^ p.drop.toNat := Int.ediv_nonneg hx.1 (by omega)
 have q1 : x / 2 ^ p.drop.toNat ≤ x := Int.ediv_le_self _ hx.1
 have m0 := Int.emod_nonneg (x / 2 ^ p.drop.toNat) (b := 2 ^ p.take.toNat) (by omega)
 have m1 := Int.emod_lt_of_pos (x / 2 ^ p.drop.toNat) (b := 2 ^ p.take.toNat) (by omega)
 rw [ztl p.take.toNat ⟨q0, by show _ < (2 : Int) ^ 64; omega⟩ (by show _ ≤ 64; omega) (IntWalk.i64_in _ (by omega))]
 refine IntWalk.i64_in _ ?_
 have : x / 2 ^ p.drop.toNat % 2 ^ p.take.toNat * 2 ^ p.up.toNat ≤ 2097152 * 2097152 := Int.mul_le_mul (by omega) (by omega) (by omega) (by omega)
 have : 0 ≤ x / 2 ^ p.drop.toNat % 2 ^ p.take.toNat * 2 ^ p.up.toNat := Int.mul_nonneg (by omega) (by omega)
 omega
theorem zao {p : Part} {x : Int} (hb : z2o p = true) (hx : 0 ≤ x ∧ x ≤ 2097151) : valB p x = true ∧ val1 p x = valP p x := by
 have : valB p x = true := by simp only [valB, hb, Bool.true_and, decide_eq_true_eq]; exact hx
 exact ⟨this, by rw [val1, this]; rfl⟩
theorem y9p {p : Part} {x : Int} (h : z2o p = false ∨ x < 0 ∨ 2097151 < x) : valB p x = false ∧ val1 p x = 0 := by
 have : valB p x = false := by
   simp only [valB, Bool.and_eq_false_iff, decide_eq_false_iff_not]
   rcases h with h | h
   · exact .inl h
   · exact .inr (by omega)
 exact ⟨this, by rw [val1, this]; rfl⟩
theorem y5v {p : Part} {x : Int} (hb : z2o p = true) (hx : 0 ≤ x ∧ x ≤ 2097151) : IntKind.i64.wrap ((IntKind.i64.wrap (x.tdiv (2 ^ p.drop.toNat))).tmod (2 ^ p.take.toNat) * 2 ^ p.up.toNat) = valP p x := by
 rw [z3d] at hb
 have hd := z69 p.drop.toNat (by omega)
 have ht := z69 p.take.toNat (by omega)
 have hu := z69 p.up.toNat (by omega)
 have q0 : 0 ≤ x / 2 ^ p.drop.toNat := Int.ediv_nonneg hx.1 (by omega)
 have q1 : x / 2 ^ p.drop.toNat ≤ x := Int.ediv_le_self _ hx.1
 have m0 := Int.emod_nonneg (x / 2 ^ p.drop.toNat) (b := 2 ^ p.take.toNat) (by omega)
 have m1 := Int.emod_lt_of_pos (x / 2 ^ p.drop.toNat) (b := 2 ^ p.take.toNat) (by omega)
 rw [IntWalk.i64_quo _ _ (by omega), IntWalk.rem_in _ _ q0]
 refine IntWalk.i64_in _ ?_
 have : x / 2 ^ p.drop.toNat % 2 ^ p.take.toNat * 2 ^ p.up.toNat ≤ 2097152 * 2097152 := Int.mul_le_mul (by omega) (by omega) (by omega) (by omega)
 have : 0 ≤ x / 2 ^ p.drop.toNat % 2 ^ p.take.toNat * 2 ^ p.up.toNat := Int.mul_nonneg (by omega) (by omega)
 omega
theorem zi9 {p : Part} {x : Int} (h : z2o p = false ∨ x < 0 ∨ 2097151 < x) : valV p x = .tup [.int .i64 0, .bool false] := by
 obtain ⟨h1, h2⟩ := y9p h
 simp only [valV, h1, h2]
theorem zn0 {p : Part} {x : Int} (hb : z2o p = true) (hx : 0 ≤ x ∧ x ≤ 2097151) : valV p x = .tup [.int .i64 (valP p x), .bool true] := by
 obtain ⟨h1, h2⟩ := zao hb hx
 simp only [valV, h1, h2]
theorem zri (p : Part) (x : Int) : PC Try.prog 124 [z1t p, .int .i64 x] (valV p x) := by
 refine z0t zks ?_
 unfold zbv
 (repeat' (first | (simp (disch := omega) only [push_cast, ↓zz, seval]) | (with_reducible first | refine And.intro ?_ ?_ | (first | refine z01 ?_ ?_ | refine z00 ?_ ?_) <;> intro hc <;> (try simp only [push_cast] at hc)) | (have q_ := z68 p; (with_reducible first | refine eK q_ ?_ | refine eQ q_ ?_ | refine eG q_ ?_); clear q_) | (have q_ := z68 p; (with_reducible first | refine cK q_ ?_ | refine cQ q_ ?_ | refine cG q_ ?_); clear q_; (simp (disch := omega) only [push_cast, ↓zz, seval]); (fail_if_success (with_reducible change False))) | omega | with_reducible intro _))
 all_goals first | (have hb := z3d.1 ‹z2o p = true›; omega) | (rw [zi9 (.inl ‹_›)]; (repeat' (first | (simp (disch := omega) only [push_cast, ↓zz, seval, z1f]) | omega | (with_reducible refine And.intro ?_ ?_))); done) | (rw [zi9 (.inr (by omega))]; (repeat' (first | (simp (disch := omega) only [push_cast, ↓zz, seval, z1f]) | omega | (with_reducible refine And.intro ?_ ?_))); done) | (rw [zn0 ‹_› (by omega)]; (repeat' (first | (simp (disch := omega) only [push_cast, ↓zz, seval, z1f]) | omega | (with_reducible refine And.intro ?_ ?_))); exact y04 ‹_› (by omega))
theorem zn1 (p : Part) (x : Int) : PC Try.prog 90 [z1t p, .int .i64 x] (valV p x) := by
 refine z0t zi0 ?_
 unfold z9t
 (repeat' (first | (simp (disch := omega) only [push_cast, ↓zz, seval]) | (with_reducible first | refine And.intro ?_ ?_ | (first | refine z01 ?_ ?_ | refine z00 ?_ ?_) <;> intro hc <;> (try simp only [push_cast] at hc)) | (have q_ := z7y p; (with_reducible first | refine eK q_ ?_ | refine eQ q_ ?_ | refine eG q_ ?_); clear q_) | (have q_ := z6o p.drop (by have hb := z3d.1 ‹z2o p = true›; omega); (with_reducible first | refine eK q_ ?_ | refine eQ q_ ?_ | refine eG q_ ?_); clear q_) | (have q_ := z6o p.take (by have hb := z3d.1 ‹z2o p = true›; omega); (with_reducible first | refine eK q_ ?_ | refine eQ q_ ?_ | refine eG q_ ?_); clear q_) | (have q_ := z6o p.up (by have hb := z3d.1 ‹z2o p = true›; omega); (with_reducible first | refine eK q_ ?_ | refine eQ q_ ?_ | refine eG q_ ?_); clear q_) | (have q_ := z7y p; (with_reducible first | refine cK q_ ?_ | refine cQ q_ ?_ | refine cG q_ ?_); clear q_; (simp (disch := omega) only [push_cast, ↓zz, seval]); (fail_if_success (with_reducible change False))) | (have q_ := z6o p.drop (by have hb := z3d.1 ‹z2o p = true›; omega); (with_reducible first | refine cK q_ ?_ | refine cQ q_ ?_ | refine cG q_ ?_); clear q_; (simp (disch := omega) only [push_cast, ↓zz, seval]); (fail_if_success (with_reducible change False))) | (have q_ := z6o p.take (by have hb := z3d.1 ‹z2o p = true›; omega); (with_reducible first | refine cK q_ ?_ | refine cQ q_ ?_ | refine cG q_ ?_); clear q_; (simp (disch := omega) only [push_cast, ↓zz, seval]); (fail_if_success (with_reducible change False))) | (have q_ := z6o p.up (by have hb := z3d.1 ‹z2o p = true›; omega); (with_reducible first | refine cK q_ ?_ | refine cQ q_ ?_ | refine cG q_ ?_); clear q_; (simp (disch := omega) only [push_cast, ↓zz, seval]); (fail_if_success (with_reducible change False))) | omega | with_reducible intro _))
 all_goals first | (rw [zi9 (.inl ‹_›)]; (repeat' (first | (simp (disch := omega) only [push_cast, ↓zz, seval, z1f]) | omega | (with_reducible refine And.intro ?_ ?_))); done) | (rw [zi9 (.inr (by omega))]; (repeat' (first | (simp (disch := omega) only [push_cast, ↓zz, seval, z1f]) | omega | (with_reducible refine And.intro ?_ ?_))); done) | (have hp := z69 p.drop.toNat (by have hb := z3d.1 ‹z2o p = true›; omega); omega) | (have hp := z69 p.take.toNat (by have hb := z3d.1 ‹z2o p = true›; omega); omega) | (rw [zn0 ‹_› (by omega)]; (repeat' (first | (simp (disch := omega) only [push_cast, ↓zz, seval, z1f]) | omega | (with_reducible refine And.intro ?_ ?_))); exact y5v ‹_› (by omega))
theorem z3e (s : Int) : PC Try.prog 37 [.int .i64 s] (z03 (domL s)) := by
 refine z0t zht ?_
 unfold z9m
 (repeat' (first | (simp (disch := omega) only [push_cast, ↓zz, seval]) | (with_reducible first | refine And.intro ?_ ?_ | (first | refine z01 ?_ ?_ | refine z00 ?_ ?_) <;> intro hc <;> (try simp only [push_cast] at hc)) | omega | with_reducible intro _))
 all_goals (simp only [domL, *]; rfl)
abbrev Term.outer (t : Term) : Part := ⟨0, t.drop, t.take, t.up⟩
theorem z6a (t : Term) : PC Try.prog 83 [z1m t] (z1t t.outer) := by
 refine z0t zkm ?_
 unfold zbp
 (repeat' (first | (simp (disch := omega) only [push_cast, ↓zz, seval]) | (with_reducible first | refine And.intro ?_ ?_ | (first | refine z01 ?_ ?_ | refine z00 ?_ ?_) <;> intro hc <;> (try simp only [push_cast] at hc)) | omega | with_reducible intro _))
theorem za2 (t : Term) : PC Try.prog 105 [z1m t] (z1t t.outer) := by
 refine z0t zi4 ?_
 unfold z9x
 (repeat' (first | (simp (disch := omega) only [push_cast, ↓zz, seval]) | (with_reducible first | refine And.intro ?_ ?_ | (first | refine z01 ?_ ?_ | refine z00 ?_ ?_) <;> intro hc <;> (try simp only [push_cast] at hc)) | omega | with_reducible intro _))
def zbx (t : Term) : Bool := decide (t.base = 0 ∧ t.drop = 0 ∧ t.take = 21 ∧ t.up = 0)
def z4z (p : Part) : Bool := decide (p.drop = 0 ∧ p.take = 21 ∧ p.up = 0)
theorem zia (p : Part) : PC Try.prog 87 [z1t p] (.bool (z4z p)) := by
 refine z0t zmq ?_
 unfold zdh
 (repeat' (first | (simp (disch := omega) only [push_cast, ↓zz, seval]) | (with_reducible first | refine And.intro ?_ ?_ | (first | refine z01 ?_ ?_ | refine z00 ?_ ?_) <;> intro hc <;> (try simp only [push_cast] at hc)) | omega | with_reducible intro _))
 all_goals (unfold z4z; first | (refine zjt ?_; omega) | (refine zju ?_; omega) | (refine zai ?_; omega))
theorem zku (t : Term) : PC Try.prog 88 [z1m t] (.bool (zbx t)) := by
 refine z0t zhz ?_
 unfold z9s
 (repeat' (first | (simp (disch := omega) only [push_cast, ↓zz, seval]) | (with_reducible first | refine And.intro ?_ ?_ | (first | refine z01 ?_ ?_ | refine z00 ?_ ?_) <;> intro hc <;> (try simp only [push_cast] at hc)) | (have q_ := za2 t; (with_reducible first | refine eK q_ ?_ | refine eQ q_ ?_ | refine eG q_ ?_); clear q_) | (have q_ := zia t.outer; (with_reducible first | refine eK q_ ?_ | refine eQ q_ ?_ | refine eG q_ ?_); clear q_) | (have q_ := za2 t; (with_reducible first | refine cK q_ ?_ | refine cQ q_ ?_ | refine cG q_ ?_); clear q_; (simp (disch := omega) only [push_cast, ↓zz, seval]); (fail_if_success (with_reducible change False))) | (have q_ := zia t.outer; (with_reducible first | refine cK q_ ?_ | refine cQ q_ ?_ | refine cG q_ ?_); clear q_; (simp (disch := omega) only [push_cast, ↓zz, seval]); (fail_if_success (with_reducible change False))) | omega | with_reducible intro _))
 all_goals (simp [zbx, z4z, Term.outer, *])
theorem zg2 (t : Term) : PC Try.prog 79 [z1m t] (.bool (zbx t)) := by
 refine z0t zkk ?_
 unfold zbm
 (repeat' (first | (simp (disch := omega) only [push_cast, ↓zz, seval]) | (with_reducible first | refine And.intro ?_ ?_ | (first | refine z01 ?_ ?_ | refine z00 ?_ ?_) <;> intro hc <;> (try simp only [push_cast] at hc)) | (have q_ := z6a t; (with_reducible first | refine eK q_ ?_ | refine eQ q_ ?_ | refine eG q_ ?_); clear q_) | (have q_ := z5b 0; (with_reducible first | refine eK q_ ?_ | refine eQ q_ ?_ | refine eG q_ ?_); clear q_) | (have q_ := z6a t; (with_reducible first | refine cK q_ ?_ | refine cQ q_ ?_ | refine cG q_ ?_); clear q_; (simp (disch := omega) only [push_cast, ↓zz, seval]); (fail_if_success (with_reducible change False))) | (have q_ := z5b 0; (with_reducible first | refine cK q_ ?_ | refine cQ q_ ?_ | refine cG q_ ?_); clear q_; (simp (disch := omega) only [push_cast, ↓zz, seval]); (fail_if_success (with_reducible change False))) | omega | with_reducible intro _))
 all_goals (simp [zbx, z4z, Term.outer, *])
def z1n (x : Int) : Bool := decide (-1114111 ≤ x ∧ x ≤ 1114111)
theorem z80 (x : Int) : PC Try.prog 97 [.int .i64 x] (.bool (z1n x)) := by
 refine z0t zkp ?_
 unfold zbs
 (repeat' (first | (simp (disch := omega) only [push_cast, ↓zz, seval]) | (with_reducible first | refine And.intro ?_ ?_ | (first | refine z01 ?_ ?_ | refine z00 ?_ ?_) <;> intro hc <;> (try simp only [push_cast] at hc)) | omega | with_reducible intro _))
 all_goals (unfold z1n; first | (refine zjt ?_; omega) | (refine zju ?_; omega) | (refine zai ?_; omega))
theorem za3 (x : Int) : PC Try.prog 103 [.int .i64 x] (.bool (z1n x)) := by
 refine z0t zi3 ?_
 unfold z9w
 (repeat' (first | (simp (disch := omega) only [push_cast, ↓zz, seval]) | (with_reducible first | refine And.intro ?_ ?_ | (first | refine z01 ?_ ?_ | refine z00 ?_ ?_) <;> intro hc <;> (try simp only [push_cast] at hc)) | omega | with_reducible intro _))
 all_goals (unfold z1n; first | (refine zjt ?_; omega) | (refine zju ?_; omega) | (refine zai ?_; omega))
def z7c : List Part → Bool
 | p :: q :: l => decide (p.up < q.up) && z7c (q :: l)
 | _ => true
theorem za4 : ∀ {l : List Part} {i : Nat}, i + 1 < l.length → z7c (l.drop i) = (decide ((nth l i).up < (nth l (i + 1)).up) && z7c (l.drop (i + 1)))
 | [], i, h => by simp at h
 | [p], i, h => by simp at h
 | p :: q :: l, 0, _ => rfl
 | p :: q :: l, i + 1, h => by
   exact za4 (l := q :: l) (i := i) (by simpa using h)
theorem zkv {l : List Part} {i : Nat} (h : l.length ≤ i + 1) : z7c (l.drop i) = true := by
 match hl : l.drop i with
 | [] => rfl
 | [p] => rfl
 | p :: q :: r => have := congrArg List.length hl; simp at this; omega
theorem zds (l : List Part) (hl : l.length < 1000000000000) : PC Try.prog 98 [z0u l] (.bool (z7c l && decide (l.length ≤ 4))) := by
 refine z0t zi2 ?_
 unfold z9v
 (repeat' (first | (simp (disch := omega) only [push_cast, ↓zz, seval]) | (with_reducible first | refine And.intro ?_ ?_ | (first | refine z01 ?_ ?_ | refine z00 ?_ ?_) <;> intro hc <;> (try simp only [push_cast] at hc)) | omega | with_reducible intro _))
 refine z0i (z0j (fun (i : Nat) => i ≤ l.length ∧ z7c l = z7c (l.drop (i - 1))) (fun i => l.length - i) (fun i => [(0, z0u l), (5, z0u l), (6, .int .i64 l.length), (7, .int .i64 i)]) (fun _ => []) (fun _ _ => []) 0 (by simp) ?_ ?_)
 · (repeat' (first | (simp (disch := omega) only [push_cast, ↓zz, seval]) | (with_reducible first | refine And.intro ?_ ?_ | (first | refine z01 ?_ ?_ | refine z00 ?_ ?_) <;> intro hc <;> (try simp only [push_cast] at hc)) | omega | with_reducible intro _))
 rintro i ⟨hi, hr⟩
 refine W_T ?_
 (repeat' (first | (simp (disch := omega) only [push_cast, ↓zz, seval]) | (with_reducible first | refine And.intro ?_ ?_ | (first | refine z01 ?_ ?_ | refine z00 ?_ ?_) <;> intro hc <;> (try simp only [push_cast] at hc)) | omega | with_reducible intro _))
 · rename_i h1 h2
   rw [hr, za4 (i := i - 1) (by omega), show i - 1 + 1 = i by omega]
   have : ¬ (nth l (i - 1)).up < (nth l i).up := by omega
   simp [this]
 · refine ⟨i + 1, ?_⟩
   (repeat' (first | (simp (disch := omega) only [push_cast, ↓zz, seval]) | (with_reducible first | refine And.intro ?_ ?_ | (first | refine z01 ?_ ?_ | refine z00 ?_ ?_) <;> intro hc <;> (try simp only [push_cast] at hc)) | omega | with_reducible intro _))
   rw [hr, za4 (i := i - 1) (by omega), show i - 1 + 1 = i by omega]
   have : (nth l (i - 1)).up < (nth l i).up := by omega
   simp [this]
 · refine ⟨i + 1, ?_⟩
   (repeat' (first | (simp (disch := omega) only [push_cast, ↓zz, seval]) | (with_reducible first | refine And.intro ?_ ?_ | (first | refine z01 ?_ ?_ | refine z00 ?_ ?_) <;> intro hc <;> (try simp only [push_cast] at hc)) | omega | with_reducible intro _))
   obtain rfl : i = 0 := by omega
   exact hr
 · rw [hr, zkv (i := i - 1) (by omega), Bool.true_and]
   exact zai (by omega)
def z1p (t : Term) : Bool := z1n t.base && z1n t.sum && z2o t.outer && (z7c t.parts && decide (t.parts.length ≤ 4))
theorem zn2 (t : Term) : z2t t.outer 1 = z2o t.outer := by simp [z2t]
theorem zdt (t : Term) : PC Try.prog 78 [z1t t.outer, .int .i64 1] (.bool (z2o t.outer)) := by rw [← zn2]; exact z7z t.outer 1
theorem z7d (t : Term) (hl : t.parts.length < 1000000000000) : PC Try.prog 77 [z1m t] (.bool (z1p t)) := by
 refine z0t zf6 ?_
 unfold z8g
 (repeat' (first | (simp (disch := omega) only [push_cast, ↓zz, seval]) | (with_reducible first | refine And.intro ?_ ?_ | (first | refine z01 ?_ ?_ | refine z00 ?_ ?_) <;> intro hc <;> (try simp only [push_cast] at hc)) | (have q_ := z80 t.base; (with_reducible first | refine eK q_ ?_ | refine eQ q_ ?_ | refine eG q_ ?_); clear q_) | (have q_ := z80 t.sum; (with_reducible first | refine eK q_ ?_ | refine eQ q_ ?_ | refine eG q_ ?_); clear q_) | (have q_ := z6a t; (with_reducible first | refine eK q_ ?_ | refine eQ q_ ?_ | refine eG q_ ?_); clear q_) | (have q_ := zdt t; (with_reducible first | refine eK q_ ?_ | refine eQ q_ ?_ | refine eG q_ ?_); clear q_) | (have q_ := zds t.parts hl; (with_reducible first | refine eK q_ ?_ | refine eQ q_ ?_ | refine eG q_ ?_); clear q_) | (have q_ := z80 t.base; (with_reducible first | refine cK q_ ?_ | refine cQ q_ ?_ | refine cG q_ ?_); clear q_; (simp (disch := omega) only [push_cast, ↓zz, seval]); (fail_if_success (with_reducible change False))) | (have q_ := z80 t.sum; (with_reducible first | refine cK q_ ?_ | refine cQ q_ ?_ | refine cG q_ ?_); clear q_; (simp (disch := omega) only [push_cast, ↓zz, seval]); (fail_if_success (with_reducible change False))) | (have q_ := z6a t; (with_reducible first | refine cK q_ ?_ | refine cQ q_ ?_ | refine cG q_ ?_); clear q_; (simp (disch := omega) only [push_cast, ↓zz, seval]); (fail_if_success (with_reducible change False))) | (have q_ := zdt t; (with_reducible first | refine cK q_ ?_ | refine cQ q_ ?_ | refine cG q_ ?_); clear q_; (simp (disch := omega) only [push_cast, ↓zz, seval]); (fail_if_success (with_reducible change False))) | (have q_ := zds t.parts hl; (with_reducible first | refine cK q_ ?_ | refine cQ q_ ?_ | refine cG q_ ?_); clear q_; (simp (disch := omega) only [push_cast, ↓zz, seval]); (fail_if_success (with_reducible change False))) | omega | with_reducible intro _))
 all_goals (simp [z1p, *])
theorem zdu (t : Term) (hl : t.parts.length < 1000000000000) : PC Try.prog 85 [z1m t] (.bool (z1p t)) := by
 refine z0t zdg ?_
 unfold z78
 (repeat' (first | (simp (disch := omega) only [push_cast, ↓zz, seval]) | (with_reducible first | refine And.intro ?_ ?_ | (first | refine z01 ?_ ?_ | refine z00 ?_ ?_) <;> intro hc <;> (try simp only [push_cast] at hc)) | (have q_ := za3 t.base; (with_reducible first | refine eK q_ ?_ | refine eQ q_ ?_ | refine eG q_ ?_); clear q_) | (have q_ := za3 t.sum; (with_reducible first | refine eK q_ ?_ | refine eQ q_ ?_ | refine eG q_ ?_); clear q_) | (have q_ := za2 t; (with_reducible first | refine eK q_ ?_ | refine eQ q_ ?_ | refine eG q_ ?_); clear q_) | (have q_ := z7y t.outer; (with_reducible first | refine eK q_ ?_ | refine eQ q_ ?_ | refine eG q_ ?_); clear q_) | (have q_ := za3 t.base; (with_reducible first | refine cK q_ ?_ | refine cQ q_ ?_ | refine cG q_ ?_); clear q_; (simp (disch := omega) only [push_cast, ↓zz, seval]); (fail_if_success (with_reducible change False))) | (have q_ := za3 t.sum; (with_reducible first | refine cK q_ ?_ | refine cQ q_ ?_ | refine cG q_ ?_); clear q_; (simp (disch := omega) only [push_cast, ↓zz, seval]); (fail_if_success (with_reducible change False))) | (have q_ := za2 t; (with_reducible first | refine cK q_ ?_ | refine cQ q_ ?_ | refine cG q_ ?_); clear q_; (simp (disch := omega) only [push_cast, ↓zz, seval]); (fail_if_success (with_reducible change False))) | (have q_ := z7y t.outer; (with_reducible first | refine cK q_ ?_ | refine cQ q_ ?_ | refine cG q_ ?_); clear q_; (simp (disch := omega) only [push_cast, ↓zz, seval]); (fail_if_success (with_reducible change False))) | omega | with_reducible intro _))
 · have : ¬ t.parts.length ≤ 4 := by omega
   simp [z1p, this]
 · have hn : z1p t = z7c t.parts := by
     have : t.parts.length ≤ 4 := by omega
     simp [z1p, *]
   rw [hn]
   refine z0i (z0j (fun (i : Nat) => i ≤ t.parts.length ∧ z7c t.parts = z7c (t.parts.drop i)) (fun i => t.parts.length - i) (fun i => [(1, .ptr 0 1 0 0), (3, .int .i64 (i + 1))]) (fun _ => [⟨6, 1, true, [z1m t]⟩]) (fun env _ => [z0r 0 (env 1)]) 0 (by simp) ?_ ?_)
   · (repeat' (first | (simp (disch := omega) only [push_cast, ↓zz, seval]) | (with_reducible first | refine And.intro ?_ ?_ | (first | refine z01 ?_ ?_ | refine z00 ?_ ?_) <;> intro hc <;> (try simp only [push_cast] at hc)) | omega | with_reducible intro _))
   rintro i ⟨hi, hr⟩
   refine W_T ?_
   (repeat' (first | (simp (disch := omega) only [push_cast, ↓zz, seval]) | (with_reducible first | refine And.intro ?_ ?_ | (first | refine z01 ?_ ?_ | refine z00 ?_ ?_) <;> intro hc <;> (try simp only [push_cast] at hc)) | omega | with_reducible intro _))
   · rw [hr, za4 (i := i) (by omega)]
     have : ¬ (nth t.parts i).up < (nth t.parts (i + 1)).up := by omega
     simp [this]
   · refine ⟨i + 1, ?_⟩
     (repeat' (first | (simp (disch := omega) only [push_cast, ↓zz, seval]) | (with_reducible first | refine And.intro ?_ ?_ | (first | refine z01 ?_ ?_ | refine z00 ?_ ?_) <;> intro hc <;> (try simp only [push_cast] at hc)) | omega | with_reducible intro _))
     rw [hr, za4 (i := i) (by omega)]
     have : (nth t.parts i).up < (nth t.parts (i + 1)).up := by omega
     simp [this]
   · rw [hr, zkv (i := i) (by omega)]
 all_goals (simp [z1p, *])
def zkw (s : Int) : Bool := decide (s = 1 ∨ s = 2)
def z2p (i n : Int) (l : List Part) : Bool := l.all fun p => z2t p n && (decide (i ≠ 2) || z4z p)
def z4e (t : Term) (i o n : Int) : Bool := zkw i && zkw o && z1p t && z2p i n t.parts && (decide (i ≠ 2) || decide (t.parts.length ≤ 1)) && (decide (o ≠ 2) || zbx t)
theorem zib (s : Int) : decide (((domL s).length : Int) = 0) = !zkw s := by
 unfold domL zkw
 split
 · subst_vars; decide
 · split
   · subst_vars; decide
   · simp [*]
theorem y22 (l : List Part) : (l.length ≤ 1) = ((l.length : Int) ≤ 1) := by simp only [eq_iff_iff]; omega
theorem zrj (t : Term) (i o n : Int) (hl : t.parts.length < 1000000000000) : PC Try.prog 67 [z1m t, .int .i64 i, .int .i64 o, .int .i64 n] (.bool (z4e t i o n)) := by
 refine z0t zkh ?_
 unfold zbj
 (repeat' (first | (simp (disch := omega) only [push_cast, ↓zz, seval, zib]) | (with_reducible first | refine And.intro ?_ ?_ | (first | refine z01 ?_ ?_ | refine z00 ?_ ?_) <;> intro hc <;> (try simp only [push_cast] at hc)) | (have q_ := z3e i; (with_reducible first | refine eK q_ ?_ | refine eQ q_ ?_ | refine eG q_ ?_); clear q_) | (have q_ := z3e o; (with_reducible first | refine eK q_ ?_ | refine eQ q_ ?_ | refine eG q_ ?_); clear q_) | (have q_ := z7d t hl; (with_reducible first | refine eK q_ ?_ | refine eQ q_ ?_ | refine eG q_ ?_); clear q_) | (have q_ := z3e i; (with_reducible first | refine cK q_ ?_ | refine cQ q_ ?_ | refine cG q_ ?_); clear q_; (simp (disch := omega) only [push_cast, ↓zz, seval, zib]); (fail_if_success (with_reducible change False))) | (have q_ := z3e o; (with_reducible first | refine cK q_ ?_ | refine cQ q_ ?_ | refine cG q_ ?_); clear q_; (simp (disch := omega) only [push_cast, ↓zz, seval, zib]); (fail_if_success (with_reducible change False))) | (have q_ := z7d t hl; (with_reducible first | refine cK q_ ?_ | refine cQ q_ ?_ | refine cG q_ ?_); clear q_; (simp (disch := omega) only [push_cast, ↓zz, seval, zib]); (fail_if_success (with_reducible change False))) | omega | with_reducible intro _))
 · simp [z4e, *]
 · have hn : z4e t i o n = (z2p i n t.parts && (decide (i ≠ 2) || decide ((t.parts.length : Int) ≤ 1)) && (decide (o ≠ 2) || zbx t)) := by simp [z4e, y22, *]
   rw [hn]
   refine z0i (z0j (fun (k : Nat) => k ≤ t.parts.length ∧ z2p i n t.parts = z2p i n (t.parts.drop k)) (fun k => t.parts.length - k) (fun k => [(1, .int .i64 i), (2, .int .i64 o), (3, .int .i64 n), (4, .ptr 0 1 0 0), (27, z0u t.parts), (28, .int .i64 t.parts.length), (29, .int .i64 k)]) (fun _ => [⟨6, 1, true, [z1m t]⟩]) (fun env _ => [z0r 0 (env 4)]) 0 (by simp) ?_ ?_)
   · (repeat' (first | (simp (disch := omega) only [push_cast, ↓zz, seval]) | (with_reducible first | refine And.intro ?_ ?_ | (first | refine z01 ?_ ?_ | refine z00 ?_ ?_) <;> intro hc <;> (try simp only [push_cast] at hc)) | omega | with_reducible intro _))
   rintro k ⟨hi, hr⟩
   refine W_T ?_
   (repeat' (first | (simp (disch := omega) only [push_cast, ↓zz, seval]) | (with_reducible first | refine And.intro ?_ ?_ | (first | refine z01 ?_ ?_ | refine z00 ?_ ?_) <;> intro hc <;> (try simp only [push_cast] at hc)) | (have q_ := z7z (nth t.parts k) n; (with_reducible first | refine eK q_ ?_ | refine eQ q_ ?_ | refine eG q_ ?_); clear q_) | (have q_ := z5b (nth t.parts k).at_; (with_reducible first | refine eK q_ ?_ | refine eQ q_ ?_ | refine eG q_ ?_); clear q_) | (have q_ := zg2 t; (with_reducible first | refine eK q_ ?_ | refine eQ q_ ?_ | refine eG q_ ?_); clear q_) | (have q_ := z7z (nth t.parts k) n; (with_reducible first | refine cK q_ ?_ | refine cQ q_ ?_ | refine cG q_ ?_); clear q_; (simp (disch := omega) only [push_cast, ↓zz, seval]); (fail_if_success (with_reducible change False))) | (have q_ := z5b (nth t.parts k).at_; (with_reducible first | refine cK q_ ?_ | refine cQ q_ ?_ | refine cG q_ ?_); clear q_; (simp (disch := omega) only [push_cast, ↓zz, seval]); (fail_if_success (with_reducible change False))) | (have q_ := zg2 t; (with_reducible first | refine cK q_ ?_ | refine cQ q_ ?_ | refine cG q_ ?_); clear q_; (simp (disch := omega) only [push_cast, ↓zz, seval]); (fail_if_success (with_reducible change False))) | omega | with_reducible intro _))
   all_goals (first | (refine ⟨k + 1, ?_⟩; (repeat' (first | (simp (disch := omega) only [push_cast, ↓zz, seval]) | (with_reducible first | refine And.intro ?_ ?_ | (first | refine z01 ?_ ?_ | refine z00 ?_ ?_) <;> intro hc <;> (try simp only [push_cast] at hc)) | omega | with_reducible intro _)); (try (first | (rw [hr, drop_at (by omega)]; simp [z2p, z4z, *]; done) | (rw [hr, List.drop_of_length_le (by omega)]; simp [z2p, z4z, *]; done) | (simp [z2p, z4z, *]; done))); done) | (first | (rw [hr, drop_at (by omega)]; simp [z2p, z4z, *]; done) | (rw [hr, List.drop_of_length_le (by omega)]; simp [z2p, z4z, *]; done) | (simp [z2p, z4z, *]; done)))
 all_goals (simp [z4e, *])
theorem zve (t : Term) (i o n : Int) (hl : t.parts.length < 1000000000000) : PC Try.prog 71 [z1m t, .int .i64 i, .int .i64 o, .int .i64 n] (.bool (z4e t i o n)) := by
 refine z0t zhw ?_
 unfold z9p
 (repeat' (first | (simp (disch := omega) only [push_cast, ↓zz, seval]) | (with_reducible first | refine And.intro ?_ ?_ | (first | refine z01 ?_ ?_ | refine z00 ?_ ?_) <;> intro hc <;> (try simp only [push_cast] at hc)) | (have q_ := zdu t hl; (with_reducible first | refine eK q_ ?_ | refine eQ q_ ?_ | refine eG q_ ?_); clear q_) | (have q_ := zdu t hl; (with_reducible first | refine cK q_ ?_ | refine cQ q_ ?_ | refine cG q_ ?_); clear q_; (simp (disch := omega) only [push_cast, ↓zz, seval]); (fail_if_success (with_reducible change False))) | omega | with_reducible intro _))
 all_goals first
   | (simp [z4e, zkw, *]; done)
   | ((have hn : z4e t i o n = (z2p i n t.parts && (decide (i ≠ 2) || decide ((t.parts.length : Int) ≤ 1)) && (decide (o ≠ 2) || zbx t)) := by simp [z4e, zkw, y22, *])
      rw [hn]
      refine z0i (z0j (fun (k : Nat) => k ≤ t.parts.length ∧ z2p i n t.parts = z2p i n (t.parts.drop k) ∧ (i = 2 → k ≤ 1)) (fun k => t.parts.length - k) (fun k => [(1, .int .i64 i), (2, .int .i64 o), (3, .int .i64 n), (4, .ptr 0 1 0 0), (9, .int .i64 k)]) (fun _ => [⟨6, 1, true, [z1m t]⟩]) (fun env _ => [z0r 0 (env 4)]) 0 (by simp) ?_ ?_)
      · (repeat' (first | (simp (disch := omega) only [push_cast, ↓zz, seval]) | (with_reducible first | refine And.intro ?_ ?_ | (first | refine z01 ?_ ?_ | refine z00 ?_ ?_) <;> intro hc <;> (try simp only [push_cast] at hc)) | omega | with_reducible intro _))
      rintro k ⟨hi, hr, hk⟩
      refine W_T ?_
      (repeat' (first | (simp (disch := omega) only [push_cast, ↓zz, seval]) | (with_reducible first | refine And.intro ?_ ?_ | (first | refine z01 ?_ ?_ | refine z00 ?_ ?_) <;> intro hc <;> (try simp only [push_cast] at hc)) | (have q_ := zdr (nth t.parts k) n; (with_reducible first | refine eK q_ ?_ | refine eQ q_ ?_ | refine eG q_ ?_); clear q_) | (have q_ := zia (nth t.parts k); (with_reducible first | refine eK q_ ?_ | refine eQ q_ ?_ | refine eG q_ ?_); clear q_) | (have q_ := zku t; (with_reducible first | refine eK q_ ?_ | refine eQ q_ ?_ | refine eG q_ ?_); clear q_) | (have q_ := zdr (nth t.parts k) n; (with_reducible first | refine cK q_ ?_ | refine cQ q_ ?_ | refine cG q_ ?_); clear q_; (simp (disch := omega) only [push_cast, ↓zz, seval]); (fail_if_success (with_reducible change False))) | (have q_ := zia (nth t.parts k); (with_reducible first | refine cK q_ ?_ | refine cQ q_ ?_ | refine cG q_ ?_); clear q_; (simp (disch := omega) only [push_cast, ↓zz, seval]); (fail_if_success (with_reducible change False))) | (have q_ := zku t; (with_reducible first | refine cK q_ ?_ | refine cQ q_ ?_ | refine cG q_ ?_); clear q_; (simp (disch := omega) only [push_cast, ↓zz, seval]); (fail_if_success (with_reducible change False))) | omega | with_reducible intro _))
      all_goals first
        | (first | (refine ⟨k + 1, ?_⟩; (repeat' (first | (simp (disch := omega) only [push_cast, ↓zz, seval]) | (with_reducible first | refine And.intro ?_ ?_ | (first | refine z01 ?_ ?_ | refine z00 ?_ ?_) <;> intro hc <;> (try simp only [push_cast] at hc)) | omega | with_reducible intro _)); (try (first | (rw [hr, drop_at (by omega)]; simp [z2p, *]; done) | (rw [hr, List.drop_of_length_le (by omega)]; simp [z2p, *]; done) | (simp [z2p, *]; done))); done) | (first | (rw [hr, drop_at (by omega)]; simp [z2p, *]; done) | (rw [hr, List.drop_of_length_le (by omega)]; simp [z2p, *]; done) | (simp [z2p, *]; done)))
        | ((have h2 : ¬ (t.parts.length : Int) ≤ 1 := by omega); simp [h2, *]; done)
        | (rw [hr, List.drop_of_length_le (by omega)]; (have h2 : i = 2 → (t.parts.length : Int) ≤ 1 := by omega); by_cases h3 : i = 2 <;> simp [z2p, *]; done)
        )
theorem zn3 (l : List Part) (hl : l.length ≤ 1000000000000) : PC Try.prog 65 [z0u l] (z0u l) := by
 by_cases h0 : l = []
 · subst h0
   refine y1x ?_ ?_
   · refine z0t z2a ?_
     unfold z1j
     (repeat' (first | (simp (disch := omega) only [push_cast, ↓zz, seval]) | (with_reducible first | refine And.intro ?_ ?_ | (first | refine z01 ?_ ?_ | refine z00 ?_ ?_) <;> intro hc <;> (try simp only [push_cast] at hc)) | omega | with_reducible intro _))
   · refine z0t z2a ?_
     unfold z1j
     (repeat' (first | (simp (disch := omega) only [push_cast, ↓zz, seval]) | (with_reducible first | refine And.intro ?_ ?_ | (first | refine z01 ?_ ?_ | refine z00 ?_ ?_) <;> intro hc <;> (try simp only [push_cast] at hc)) | omega | with_reducible intro _))
 · refine z0t z2a ?_
   unfold z1j
   (repeat' (first | (simp (disch := omega) only [push_cast, ↓zz, seval, h0]) | (with_reducible first | refine And.intro ?_ ?_ | (first | refine z01 ?_ ?_ | refine z00 ?_ ?_) <;> intro hc <;> (try simp only [push_cast] at hc)) | omega | with_reducible intro _))
theorem zvf (a x : Int) : PC Try.prog 38 [.int .i64 a, .int .i64 x] (z1m ⟨0, 0, 21, 0, x, [⟨a, 0, 21, 0⟩]⟩) := by
 refine z0t zmi ?_
 unfold zd7
 (repeat' (first | (simp (disch := omega) only [push_cast, ↓zz, seval]) | (with_reducible first | refine And.intro ?_ ?_ | (first | refine z01 ?_ ?_ | refine z00 ?_ ?_) <;> intro hc <;> (try simp only [push_cast] at hc)) | (have q_ := z5b a; (with_reducible first | refine eK q_ ?_ | refine eQ q_ ?_ | refine eG q_ ?_); clear q_) | (have q_ := z5b a; (with_reducible first | refine cK q_ ?_ | refine cQ q_ ?_ | refine cG q_ ?_); clear q_; (simp (disch := omega) only [push_cast, ↓zz, seval]); (fail_if_success (with_reducible change False))) | omega | with_reducible intro _))
 all_goals trace_state
def sumP (w : List Int) : List Part → Int → Option Int
 | [], a => some a
 | p :: l, a => if z2t p w.length then sumP w l (IntKind.i64.wrap (a + val1 p (nth w p.at_.toNat))) else none
def symB (x : Int) : Bool := decide (0 ≤ x ∧ x ≤ 1114111)
def z6x (t : Term) (w : List Int) : Option Int :=
 if w.all symB then
   match sumP w t.parts t.sum with
   | some x => if valB t.outer x && decide (x ≤ 1114111) then some (IntKind.i64.wrap (t.base + valP t.outer x)) else none
   | none => none
 else none
theorem z08 {p : Part} {n : Int} (h : z2t p n = true) : 0 ≤ p.at_ ∧ p.at_ < n := by
 simp only [z2t, Bool.and_eq_true, decide_eq_true_eq] at h
 exact h.1
theorem zvg {x : Int} : z1n x = true ↔ -1114111 ≤ x ∧ x ≤ 1114111 := by simp [z1n]
theorem z44 {x : Int} (h : z1n x = true) : -1114111 ≤ x ∧ x ≤ 1114111 := zvg.1 h
end Go.Proofs.Yticodgjinajkpaa
namespace Go.Proofs.Yticodgjinajkpaa
open Abs
abbrev wr (n : Int) : Int := IntKind.i64.wrap n
theorem zvh (n : Int) : wr n = (n + 9223372036854775808) % 18446744073709551616 - 9223372036854775808 := by
 show IntKind.i64.wrap n = _
 rw [IntWalk.i64_left]
 unfold RowKit.wrap64
 rfl
theorem y5w {n : Int} (h : -9223372036854775808 ≤ n ∧ n ≤ 9223372036854775807) : wr n = n := by rw [zvh]; omega
theorem wr_wr (a b : Int) : wr (wr a + b) = wr (a + b) := by rw [zvh, zvh a, zvh (a + b)]; omega
theorem wr_bd (a : Int) : -9223372036854775808 ≤ wr a ∧ wr a ≤ 9223372036854775807 := by rw [zvh]; omega
def totP (w : List Int) : List Part → Int
 | [] => 0
 | p :: l => val1 p (nth w p.at_.toNat) + totP w l
def zap (w : List Int) (l : List Part) : Bool := l.all fun p => z2t p w.length
theorem zvi (w : List Int) : ∀ (l : List Part) (a : Int), wr a = a → sumP w l a = if zap w l then some (wr (a + totP w l)) else none
 | [], a, h => by simp [sumP, zap, totP, h]
 | p :: l, a, h => by
   rw [sumP]
   cases hp : z2t p w.length
   · simp [zap, hp]
   · have ih := zvi w l (wr (a + val1 p (nth w p.at_.toNat))) (by rw [y5w (wr_bd _)])
     rw [if_pos rfl]
     have e : wr (wr (a + val1 p (nth w p.at_.toNat)) + totP w l) = wr (a + totP w (p :: l)) := by rw [wr_wr, totP]; congr 1; omega
     rw [e] at ih
     simp only [zap, List.all_cons, hp, Bool.true_and] at ih ⊢
     exact ih
theorem zvj {p : Part} {x : Int} (h : z4z p = true) (hx : 0 ≤ x ∧ x ≤ 2097151) : z2o p = true ∧ valB p x = true ∧ valP p x = x := by
 simp only [z4z, decide_eq_true_eq] at h
 obtain ⟨h1, h2, h3⟩ := h
 have hb : z2o p = true := by simp [z2o, h1, h2, h3]
 refine ⟨hb, (zao hb hx).1, ?_⟩
 rw [valP, h1, h2, h3]
 show x / 2 ^ 0 % 2 ^ 21 * 2 ^ 0 = x
 omega
end Go.Proofs.Yticodgjinajkpaa
namespace Go.Proofs.Yticodgjinajkpaa
open Abs Go.RowKit
abbrev shI : Sh := .int .i64
abbrev zvk : Sh := .sl true [shI, shI]
abbrev zic : Sh := .sl false [zvk]
abbrev zvl : Sh := .sl true [shI, shI, shI, shI]
abbrev zvm : List Sh := [shI, shI, shI, shI, shI, zvl]
abbrev zn4 : Sh := .sl true zvm
abbrev zvn : List Sh := [shI, shI, zic, shI, zn4]
abbrev zoy : List Sh := [shI, zic, zn4]
abbrev zn5 : List Sh := [shI, shI, shI, shI, .sl true zvn, .sl true zoy]
theorem wf_i64 {n : Int} (h : (Lit.int .i64 n).wf = true) : -9223372036854775808 ≤ n ∧ n ≤ 9223372036854775807 := by
 simpa [Lit.wf, IntKind.min, IntKind.max, IntKind.signed, IntKind.bits] using h
theorem zaq {α : Type} {agg : Bool} {fs : List Sh} {x : AV} (f : α → AV) (Q : α → Prop) (hp : ∀ l : List α, z0l (l.map f) = true) (hpos : 0 < fs.length)
   (he : ∀ cs, IsL fs cs → ∃ a, AV.le (if agg then .agg cs else cs.headD .any) (f a) ∧ Q a) (h : Is (.sl agg fs) x) : ∃ l : List α, AV.le x (.lst fs.length (l.map f)) ∧ l.length ≤ maxLen ∧ ∀ a ∈ l, Q a := by
 rcases h with rfl | ⟨xs, rfl, hl, hx⟩
 · exact ⟨[], AV.le_nilS hpos, Nat.zero_le _, fun _ h => by cases h⟩
 · have key : ∀ xs : List AV, (∀ y ∈ xs, ∃ cs, y = (if agg then AV.agg cs else cs.headD .any) ∧ IsL fs cs) → ∃ l : List α, l.length = xs.length ∧ leL xs (l.map f) ∧ ∀ a ∈ l, Q a := by
     intro xs
     induction xs with
     | nil => intro _; exact ⟨[], rfl, z3p, fun _ h => by cases h⟩
     | cons y r ih =>
       intro hy
       obtain ⟨l, h1, h2, h3⟩ := ih fun z hz => hy z (List.mem_cons_of_mem _ hz)
       obtain ⟨cs, rfl, hcs⟩ := hy y (List.mem_cons_self ..)
       obtain ⟨a, h4, h5⟩ := he cs hcs
       refine ⟨a :: l, by simp [h1], z0f h4 h2, fun b hb => ?_⟩
       rcases List.mem_cons.1 hb with rfl | hb
       · exact h5
       · exact h3 b hb
   obtain ⟨l, h1, h2, h3⟩ := key xs hx
   exact ⟨l, AV.le_lst (by simp [h1]) (hp l) h2, by rw [h1]; exact hl, h3⟩
def i64s (l : List Int) : Prop := ∀ n ∈ l, (Lit.int .i64 n).wf = true
def zg3 (s : Span) : Prop := i64s [s.lo, s.hi]
theorem y05 {x : AV} (h : Is zvk x) : ∃ l : List Span, AV.le x (z03 l) ∧ l.length ≤ maxLen ∧ ∀ s ∈ l, zg3 s :=
 zaq z1e zg3 z2b (by decide) (fun cs h => by
   obtain ⟨_, _, rfl, ⟨a, rfl, ha⟩, _, _, rfl, ⟨b, rfl, hb⟩, rfl⟩ := h
   exact ⟨⟨a, b⟩, AV.le_refl _, by simp [zg3, i64s, ha, hb]⟩) h
theorem zkx {x : AV} (h : Is zic x) : ∃ l : List (List Span), AV.le x (z0b l) ∧ l.length ≤ maxLen ∧ ∀ g ∈ l, g.length ≤ maxLen ∧ ∀ s ∈ g, zg3 s :=
 zaq z03 (fun g => g.length ≤ maxLen ∧ ∀ s ∈ g, zg3 s) z06 (by decide) (fun cs h => by
   obtain ⟨c, _, rfl, hc, _⟩ := h
   obtain ⟨l, h1, h2, h3⟩ := y05 hc
   exact ⟨l, h1, h2, h3⟩) h
def zoz (p : Part) : Prop := i64s [p.at_, p.drop, p.take, p.up]
theorem y06 {x : AV} (h : Is zvl x) : ∃ l : List Part, AV.le x (z0u l) ∧ l.length ≤ maxLen ∧ ∀ s ∈ l, zoz s :=
 zaq z1t zoz z63 (by decide) (fun cs h => by
   obtain ⟨_, _, rfl, ⟨a, rfl, ha⟩, _, _, rfl, ⟨b, rfl, hb⟩, _, _, rfl, ⟨c, rfl, hc⟩, _, _, rfl, ⟨d, rfl, hd⟩, rfl⟩ := h
   exact ⟨⟨a, b, c, d⟩, AV.le_refl _, by simp [zoz, i64s, ha, hb, hc, hd]⟩) h
def zp0 (t : Term) : Prop := i64s [t.base, t.drop, t.take, t.up, t.sum] ∧ t.parts.length ≤ maxLen ∧ ∀ p ∈ t.parts, zoz p
theorem y07 {cs : List AV} (h : IsL zvm cs) : ∃ t : Term, AV.le (.agg cs) (z1m t) ∧ zp0 t := by
 obtain ⟨_, _, rfl, ⟨a, rfl, ha⟩, _, _, rfl, ⟨b, rfl, hb⟩, _, _, rfl, ⟨c, rfl, hc⟩, _, _, rfl, ⟨d, rfl, hd⟩, _, _, rfl, ⟨e, rfl, he⟩, x, _, rfl, hx, rfl⟩ := h
 obtain ⟨l, h1, h2, h3⟩ := y06 hx
 exact ⟨⟨a, b, c, d, e, l⟩, AV.le_agg (z0f (AV.le_refl _) (z0f (AV.le_refl _) (z0f (AV.le_refl _) (z0f (AV.le_refl _) (z0f (AV.le_refl _) (z0f h1 z3p)))))), by simp [i64s, ha, hb, hc, hd, he], h2, h3⟩
theorem zp1 {x : AV} (h : Is zn4 x) : ∃ l : List Term, AV.le x (z4d l) ∧ l.length ≤ maxLen ∧ ∀ t ∈ l, zp0 t :=
 zaq z1m zp0 z0w (by decide) (fun cs h => by simpa using y07 h) h
def zp2 (g : List (List Span)) : Prop := g.length ≤ maxLen ∧ ∀ l ∈ g, l.length ≤ maxLen ∧ ∀ s ∈ l, zg3 s
def zvo (l : List Term) : Prop := l.length ≤ maxLen ∧ ∀ t ∈ l, zp0 t
def zvp (r : Rule) : Prop := i64s [r.from_, r.to_, r.eat] ∧ zp2 r.guards ∧ zvo r.out
def zn6 (f : z6z) : Prop := i64s [f.from_] ∧ zp2 f.guards ∧ zvo f.out
theorem y5x {cs : List AV} (h : IsL zvn cs) : ∃ r : Rule, AV.le (.agg cs) (z5w r) ∧ zvp r := by
 obtain ⟨_, _, rfl, ⟨a, rfl, ha⟩, _, _, rfl, ⟨b, rfl, hb⟩, x, _, rfl, hx, _, _, rfl, ⟨c, rfl, hc⟩, y, _, rfl, hy, rfl⟩ := h
 obtain ⟨g, g1, g2, g3⟩ := zkx hx
 obtain ⟨o, o1, o2, o3⟩ := zp1 hy
 exact ⟨⟨a, b, g, c, o⟩, AV.le_agg (z0f (AV.le_refl _) (z0f (AV.le_refl _) (z0f g1 (z0f (AV.le_refl _) (z0f o1 z3p))))), by simp [i64s, ha, hb, hc], ⟨g2, g3⟩, o2, o3⟩
theorem y08 {cs : List AV} (h : IsL zoy cs) : ∃ r : z6z, AV.le (.agg cs) (z9d r) ∧ zn6 r := by
 obtain ⟨_, _, rfl, ⟨a, rfl, ha⟩, x, _, rfl, hx, y, _, rfl, hy, rfl⟩ := h
 obtain ⟨g, g1, g2, g3⟩ := zkx hx
 obtain ⟨o, o1, o2, o3⟩ := zp1 hy
 exact ⟨⟨a, g, o⟩, AV.le_agg (z0f (AV.le_refl _) (z0f g1 (z0f o1 z3p))), by simp [i64s, ha], ⟨g2, g3⟩, o2, o3⟩
def y9q (d : Desc) : Prop := i64s [d.in_, d.out, d.states, d.start] ∧ (d.rules.length ≤ maxLen ∧ ∀ r ∈ d.rules, zvp r) ∧ d.finals.length ≤ maxLen ∧ ∀ f ∈ d.finals, zn6 f
theorem zvq {x : AV} (h : IsP (.rcd zn5) x) : ∃ d : Desc, AV.le x (z1y d) ∧ y9q d := by
 obtain ⟨_, rfl, _, _, rfl, ⟨a, rfl, ha⟩, _, _, rfl, ⟨b, rfl, hb⟩, _, _, rfl, ⟨c, rfl, hc⟩, _, _, rfl, ⟨e, rfl, he⟩, x, _, rfl, hx, y, _, rfl, hy, rfl⟩ := h
 obtain ⟨r, r1, r2, r3⟩ := zaq z5w zvp z1h (by decide) (fun cs h => by simpa using y5x h) hx
 obtain ⟨f, f1, f2, f3⟩ := zaq z9d zn6 z1v (by decide) (fun cs h => by simpa using y08 h) hy
 exact ⟨⟨a, b, c, e, r, f⟩, AV.le_agg (z0f (AV.le_refl _) (z0f (AV.le_refl _) (z0f (AV.le_refl _) (z0f (AV.le_refl _) (z0f r1 (z0f f1 z3p)))))), by simp [i64s, ha, hb, hc, he], ⟨r2, r3⟩, f2, f3⟩
end Go.Proofs.Yticodgjinajkpaa
namespace Go.Proofs.Yticodgjinajkpaa
open Abs
theorem y09 {o : Option Int} (h : o.isSome = true) : o = some (o.getD 0) := by cases o <;> simp_all
end Go.Proofs.Yticodgjinajkpaa
namespace Go.Proofs.Yticodgjinajkpaa.Abs
section
variable {P : Program} {n b : Nat} {Q : Ex → Env → z02 → Prop}
def zdv (P : Program) (n b : Nat) (c : AC) (Q : Ex → Env → z02 → Prop) : Nat → Env → z02 → Prop
 | 0, _, _ => False
 | m + 1, env, H => T P n b c env H (Ex.then (zdv P n b c Q m) Q)
theorem zky {c : AC} {d : Code} (hd : z2w P n d = some c) {rd : Option Nat} {mm : Nat} (hrd : c.free = true ∨ rd = none) {S0 : MS} : ∀ (m : Nat) (env : Env) (H : z02) (S : MS) (a : Act), BEvo b S0 S → SRel S H → FRel S n env a → zdv P n b c Q m env H →
   Code.roundsIn (fen rd) mm P d (After S0 n b Q) m a S.w
 | 0, _, _, _, _, _, _, _, h => h.elim
 | m + 1, env, H, S, a, e0, hS, hF, h => by
   rw [Code.roundsIn]
   refine wpIn_mono (h rd mm hrd d hd S a e0.n hS hF) fun e a' w' hh => ?_
   obtain ⟨S2, env2, H2, z, rfl, e2, hS2, hF2, rfl, hq⟩ := hh
   cases z with
   | normal => exact zky hd hrd m env2 H2 S2 a' (e0.trans e2) hS2 hF2 hq
   | exit id => exact ⟨S2, env2, H2, .exit id, rfl, e0.trans e2, hS2, hF2, rfl, hq⟩
   | ret => exact ⟨S2, env2, H2, .ret, rfl, e0.trans e2, hS2, hF2, rfl, hq⟩
theorem zp3 {c : AC} {env : Env} {H : z02} (m : Nat) (h : zdv P n b c Q m env H) : T P n b (.loop c) env H Q := T_of fun rd mm hrd code hc hs S a hb hS hF => by
 cases code <;> simp only [z2w, reduceCtorEq, Option.some.injEq] at hc
 case loop d =>
   obtain ⟨x, hx, hh⟩ := Option.map_eq_some_iff.1 hc
   cases hh
   exact wpIn_loop_rounds m (zky hx hrd m env H S a (.refl hb) hS hF h)
 case region => exact absurd hc z1x
 case seq => split at hc <;> cases hc
 case cond => split at hc <;> cases hc
 case block => obtain ⟨_, _, h⟩ := Option.map_eq_some_iff.1 hc; cases h
 case rangeFunc => split at hc <;> cases hc
 case scope d => exact absurd rfl (hs d)
theorem z0q {c : AC} {env : Env} {H : z02} (m : Nat) (h : W P n b c env H (Ex.then (zdv P n b c Q m) Q)) : @z8q ⟨T P n b (.loop c) env H Q⟩ := zp3 (m + 1) (W_T h)
theorem z0x {c : AC} {env : Env} {H : z02} (m : Nat) (srcs : Env → List Src) (live : List (Nat × AV)) (heap : List Grp) (he : Head b env H (srcs env) live heap) (h : W P n b c (z3t live) (hl heap) (Ex.then (zdv P n b c Q m) Q)) : @z8q ⟨T P n b (.loop c) env H Q⟩ := zug he (zp3 (m + 1) (W_T h))
theorem z0a {c : AC} {env : Env} {H : z02} {m : Nat} (h : W P n b c env H (Ex.then (zdv P n b c Q m) Q)) : zdv P n b c Q (m + 1) env H := W_T h
end
theorem zp4 {S : MS} : ∀ {xs ys : List AV} {vs : List Value}, z04 S (xs ++ ys) vs → ∃ v1 v2, vs = v1 ++ v2 ∧ z04 S xs v1
 | [], ys, vs, h => ⟨[], vs, rfl, rfl⟩
 | x :: xs, ys, vs, h => by
   obtain ⟨v, r, rfl, h1, h2⟩ := h
   obtain ⟨v1, v2, rfl, h3⟩ := zp4 (xs := xs) (ys := ys) h2
   exact ⟨v :: v1, v2, rfl, v, v1, rfl, h1, h3⟩
theorem zrk {S : MS} {w v : Nat} {ex : Bool} {xs ys : List AV} (hw : 0 < w) (hS : SRel S (hl [⟨w, v, ex, xs ++ ys⟩])) : SRel S (hl [⟨w, v, false, xs⟩]) := by
 have h0 : GRel S ⟨w, v, ex, xs ++ ys⟩ 0 := hS.grp 0 (by show 0 < 1; omega)
 have hg : GRel S ⟨w, v, false, xs⟩ 0 := by
   refine ⟨h0.ver, h0.wid, fun _ hc => ?_, fun _ => ?_, fun _ h => (by cases h), fun h => ?_⟩
   · obtain ⟨⟨cells, TT, vs, a1, a2, a3, a4⟩, a5⟩ := h0.live hw hc
     obtain ⟨v1, v2, rfl, h1⟩ := zp4 a3
     refine ⟨⟨cells, TT, v1, a1, a2, h1, fun i u hu => a4 i u ?_⟩, a5⟩
     obtain ⟨hl1, _⟩ := List.getElem?_eq_some_iff.1 hu
     rw [List.getElem?_append_left hl1]; exact hu
   · have := h0.len hw
     simp only [List.length_append] at this
     show xs.length ≤ _
     omega
   · simp only at h; omega
 refine ⟨hS.n, fun g hg' => ?_, fun g g' a c hne => ?_, hS.im⟩
 · have hz : g < 1 := hg'
   obtain rfl : g = 0 := by omega
   exact hg
 · have a' : g < 1 := a
   have c' : g' < 1 := c
   omega
theorem zkz {P : Program} {f : Nat} {args : List AV} {H : z02} {w v : Nat} {ex : Bool} {xs : List AV} {y0 : AV} (hw : 0 < w) (h : z0z P f args H fun y H' => ∃ ys, y = y0 ∧ H' = hl [⟨w, v, ex, xs ++ ys⟩]) : z0z P f args H fun y H' => y = y0 ∧ H' = hl [⟨w, v, false, xs⟩] :=
 ⟨h.1, fun S cargs hS hx => (h.2 S cargs hS hx).mono fun e w' hh => by
   obtain ⟨v, S1, y, H', he, hw', ev, hS1, hv, ys, rfl, rfl⟩ := hh
   exact ⟨v, S1, _, _, he, hw', ev, zrk hw hS1, hv, rfl, rfl⟩⟩
theorem y5y {P : Program} {f : Nat} {xs ys : List AV} {l : List Grp} {K : AV → z02 → Prop} (h1 : okA 4 ((hl l).only (z1l xs)) xs) (h2 : leSL [] (frA 4 ((hl l).only (z1l xs)) xs) ys) (h3 : @zm5 P f ys (hl (z9c 0 (z1l xs) l)) ⟨K⟩) : @zm5 P f xs (hl l) ⟨K⟩ :=
 zfp 4 (z1l xs) (zd0 h1) (z62 (z8s h2) h3)
def z3r (i : Nat) (ks : List Nat) : List Grp → List Grp → Prop
 | [], _ => True
 | _ :: _, [] => False
 | G :: l, G' :: l' => (i ∈ ks ∨ G = G') ∧ z3r (i + 1) ks l l'
theorem z3r.of {ks : List Nat} : ∀ {i : Nat} {l l' : List Grp}, z3r i ks l l' → l.length ≤ l'.length ∧ ∀ g, i + g ∉ ks → g < l.length → l'.getD g default = l.getD g default
 | _, [], _, _ => ⟨by simp, fun g _ h => absurd h (by simp)⟩
 | _, _ :: _, [], h => h.elim
 | i, G :: l, G' :: l', h => by
   obtain ⟨h1, h2⟩ := z3r.of h.2
   refine ⟨by simpa using h1, fun g hg hl => ?_⟩
   cases g with
   | zero =>
     rcases h.1 with h3 | h3
     · exact absurd h3 hg
     · simp [h3]
   | succ g =>
     have := h2 g (by rwa [show i + 1 + g = i + (g + 1) by omega]) (by simpa using hl)
     simpa using this
def effB (ks : List Nat) : AK → List Grp → List Grp → Prop
 | .app .., l, l' => z3r 0 ks l l'
 | .mkMap, l, l' => z3r 0 ks l l'
 | .mapSet, l, l' => z3r 0 ks l l'
 | _, _, _ => True
theorem zvr {ks : List Nat} {k : AK} {l l' : List Grp} (h : effB ks k l l') (h2 : k.eff = some 2) : l.length ≤ l'.length ∧ ∀ g, g ∉ ks → g < l.length → l'.getD g default = l.getD g default := by
 have key : z3r 0 ks l l' := by cases k <;> first | exact h | (simp [AK.eff] at h2)
 obtain ⟨a, c⟩ := key.of
 exact ⟨a, fun g hg => c g (by simpa using hg)⟩
def xk (P : Program) (ks : List Nat) : List Bool → List AOp → Env → List Grp → (Env → List Grp → Prop) → Prop
 | _, [], env, l, K => K env l
 | fl, ⟨dst, args, none, k⟩ :: r, env, l, K => (fl.headD false = true → z1a (· ∉ ks) (args.map (·.eval env))) ∧ @opG P k l (args.map (·.eval env)) ⟨fun x l' => effB ks k l l' ∧ xk P ks fl.tail r (env.put dst x) l' K⟩
 | fl, ⟨dst, args, some (d, want), k⟩ :: r, env, l, K => @z4g (env d) want
     ⟨(fl.headD false = true → z1a (· ∉ ks) (args.map (·.eval (env.put (some d) (.bool want))))) ∧ @opG P k l (args.map (·.eval (env.put (some d) (.bool want)))) ⟨fun x l' => effB ks k l l' ∧ xk P ks fl.tail r ((env.put (some d) (.bool want)).put dst x) l' K⟩⟩
     ⟨xk P ks fl.tail r ((env.put (some d) (.bool (!want))).put dst (.tup [])) l K⟩ ⟨xk P ks fl.tail r (env.put dst (.tup [])) l K⟩
theorem zdw (P : Program) (ks : List Nat) : ∀ (L : List AOp) (fl : List Bool) (env : Env) (l : List Grp) {K : Env → List Grp → Prop}, xk P ks fl L env l K → runX P ks fl L env l K
 | [], _, _, _, _, h => h
 | ⟨dst, args, none, k⟩ :: r, fl, env, l, K, h => by
   obtain ⟨h0, h'⟩ := h
   have := zhj h'
   simp only [runX, z6v, AOp.vals, if_true]
   split at this
   · rename_i he
     rw [if_pos he]
     obtain ⟨x, h1, h2⟩ := this
     exact ⟨h0, x, h1, zdw P ks r _ _ _ h2.2⟩
   · rename_i he
     rw [if_neg he]
     obtain ⟨x, l', b1, b2, b3⟩ := this
     exact ⟨x, l', b1, b2, zvr b3.1, h0, zdw P ks r _ _ _ b3.2⟩
 | ⟨dst, args, some (d, want), k⟩ :: r, fl, env, l, K, h => by
   have h' : z5l (env d) want ((fl.headD false = true → z1a (· ∉ ks) (args.map (·.eval (env.put (some d) (.bool want))))) ∧ @opG P k l (args.map (·.eval (env.put (some d) (.bool want)))) ⟨fun x l' => effB ks k l l' ∧ xk P ks fl.tail r ((env.put (some d) (.bool want)).put dst x) l' K⟩)
     (xk P ks fl.tail r ((env.put (some d) (.bool (!want))).put dst (.tup [])) l K) (xk P ks fl.tail r (env.put dst (.tup [])) l K) := h
   simp only [runX, z6v, AOp.vals, if_true, Bool.false_eq_true, if_false]
   refine zcp (fun h1 => ?_) (fun h1 => zdw P ks r _ _ _ h1) (fun h1 => zdw P ks r _ _ _ h1) h'
   obtain ⟨h0, h1⟩ := h1
   have := zhj h1
   split at this
   · rename_i he
     obtain ⟨x, h1, h2⟩ := this
     rw [if_pos he]
     exact ⟨h0, x, h1, zdw P ks r _ _ _ h2.2⟩
   · rename_i he
     rw [if_neg he]
     obtain ⟨x, l', b1, b2, b3⟩ := this
     exact ⟨x, l', b1, b2, zvr b3.1, h0, zdw P ks r _ _ _ b3.2⟩
section
variable {P : Program} {n b : Nat} {Q : Ex → Env → z02 → Prop} {ks : List Nat} {env : Env} {l : List Grp} {K : Env → List Grp → Prop} {fl : List Bool} {r : List AOp} {dst : Option Nat} {args : List AArg} {k : AK}
theorem z2g {L : List AOp} (ks : List Nat) (h : xk P ks fl L env l fun env' l' => Q .normal env' (hl l')) : @z8q ⟨T P n b (.grx fl L) env (hl l) Q⟩ := T_grx ks (zdw P ks L fl env l h)
theorem zby {x : AV} {w : Bool} {p p2 q s : HP} (h : p.p = p2.p) : @z4g x w p q s = @z4g x w p2 q s := by cases p; cases p2; cases h; rfl
theorem xk1 : xk P ks fl [] env l K = K env l := by cases fl <;> rfl
theorem xk2 : xk P ks (false :: fl) (⟨dst, args, none, k⟩ :: r) env l K = @opG P k l (args.map (·.eval env)) ⟨fun x l' => effB ks k l l' ∧ xk P ks fl r (env.put dst x) l' K⟩ := propext ⟨fun h => h.2, fun h => ⟨fun h0 => (by cases h0), h⟩⟩
theorem xk3 : xk P ks (true :: fl) (⟨dst, args, none, k⟩ :: r) env l K = (z1a (· ∉ ks) (args.map (·.eval env)) ∧ @opG P k l (args.map (·.eval env)) ⟨fun x l' => effB ks k l l' ∧ xk P ks fl r (env.put dst x) l' K⟩) := propext ⟨fun h => ⟨h.1 rfl, h.2⟩, fun h => ⟨fun _ => h.1, h.2⟩⟩
theorem xk4 {d : Nat} {want : Bool} : xk P ks (false :: fl) (⟨dst, args, some (d, want), k⟩ :: r) env l K = @z4g (env d) want
     ⟨@opG P k l (args.map (·.eval (env.put (some d) (.bool want)))) ⟨fun x l' => effB ks k l l' ∧ xk P ks fl r ((env.put (some d) (.bool want)).put dst x) l' K⟩⟩
     ⟨xk P ks fl r ((env.put (some d) (.bool (!want))).put dst (.tup [])) l K⟩ ⟨xk P ks fl r (env.put dst (.tup [])) l K⟩ := zby (propext ⟨fun h => h.2, fun h => ⟨fun h0 => (by cases h0), h⟩⟩)
theorem xk5 {d : Nat} {want : Bool} : xk P ks (true :: fl) (⟨dst, args, some (d, want), k⟩ :: r) env l K = @z4g (env d) want
     ⟨z1a (· ∉ ks) (args.map (·.eval (env.put (some d) (.bool want)))) ∧ @opG P k l (args.map (·.eval (env.put (some d) (.bool want)))) ⟨fun x l' => effB ks k l l' ∧ xk P ks fl r ((env.put (some d) (.bool want)).put dst x) l' K⟩⟩
     ⟨xk P ks fl r ((env.put (some d) (.bool (!want))).put dst (.tup [])) l K⟩ ⟨xk P ks fl r (env.put dst (.tup [])) l K⟩ := zby (propext ⟨fun h => ⟨h.1 rfl, h.2⟩, fun h => ⟨fun _ => h.1, h.2⟩⟩)
variable {l2 : List Grp}
theorem xk6 {w s : Nat} {z : AV} : effB ks (.app w s z) l l2 = z3r 0 ks l l2 := rfl
theorem xk7 : effB ks .mapSet l l2 = z3r 0 ks l l2 := rfl
theorem xk8 : effB ks .mkMap l l2 = z3r 0 ks l l2 := rfl
theorem y9r  : effB ks (.mv ) l l2 = True := rfl
theorem zvs  : effB ks (.pick ) l l2 = True := rfl
theorem zp5 {a0 : AV} {a1 : Nat} : effB ks (.alloc a0 a1) l l2 = True := rfl
theorem y23  : effB ks (.box ) l l2 = True := rfl
theorem zp6 {a0 : List AV} {a1 : List (Nat × Nat)} {a2 : List Nat} : effB ks (.build a0 a1 a2) l l2 = True := rfl
theorem zl0 {a0 : Nat} {a1 : Nat} {a2 : AV} {a3 : List Nat} : effB ks (.bslice a0 a1 a2 a3) l l2 = True := rfl
theorem zvt {a0 : Bool} {a1 : Nat} : effB ks (.load a0 a1) l l2 = True := rfl
theorem zp7 {a0 : Nat} : effB ks (.store a0) l l2 = True := rfl
theorem zdx  : effB ks (.nilCheck ) l l2 = True := rfl
theorem y24 {a0 : BinOp} : effB ks (.bin a0) l l2 = True := rfl
theorem y25 {a0 : Bool} : effB ks (.eqb a0) l l2 = True := rfl
theorem y26 {a0 : Bool} {a1 : List Nat} : effB ks (.eqs a0 a1) l l2 = True := rfl
theorem y27 {a0 : Bool} : effB ks (.eqn a0) l l2 = True := rfl
theorem y9s {a0 : UnOp} : effB ks (.un a0) l l2 = True := rfl
theorem zvu {a0 : IntKind} : effB ks (.conv a0) l l2 = True := rfl
theorem zp8  : effB ks (.toStr ) l l2 = True := rfl
theorem zp9 {a0 : Nat} {a1 : Bool} {a2 : Bool} {a3 : Bool} : effB ks (.slice a0 a1 a2 a3) l l2 = True := rfl
theorem zpa {a0 : Bool} {a1 : Nat} {a2 : Nat} : effB ks (.faddr a0 a1 a2) l l2 = True := rfl
theorem zpb {a0 : Bool} {a1 : Nat} {a2 : Nat} : effB ks (.field a0 a1 a2) l l2 = True := rfl
theorem zpc {a0 : Nat} : effB ks (.iaddr a0) l l2 = True := rfl
theorem zl1 {a0 : Nat} {a1 : Nat} {a2 : Bool} : effB ks (.iaddrA a0 a1 a2) l l2 = True := rfl
theorem zpd {a0 : Nat} {a1 : Nat} {a2 : Bool} : effB ks (.index a0 a1 a2) l l2 = True := rfl
theorem zdy  : effB ks (.indexStr ) l l2 = True := rfl
theorem zg4 {a0 : Nat} : effB ks (.extract a0) l l2 = True := rfl
theorem y28 {a0 : Bool} : effB ks (.len a0) l l2 = True := rfl
theorem y29  : effB ks (.max ) l l2 = True := rfl
theorem y2a  : effB ks (.min ) l l2 = True := rfl
theorem zg5 {a0 : Nat} {a1 : Nat} {a2 : AV} : effB ks (.mkSlice a0 a1 a2) l l2 = True := rfl
theorem zl2 {a0 : Nat} : effB ks (.mkFunc a0) l l2 = True := rfl
theorem zl3 {a0 : AV} : effB ks (.mapGet a0) l l2 = True := rfl
theorem zvv  : effB ks (.call ) l l2 = True := rfl
theorem sb1 {i : Nat} : z3r i ks [] l = True := rfl
theorem sb2 {i : Nat} {G G2 : Grp} : z3r i ks (G :: l) (G2 :: l2) = ((i ∈ ks ∨ G = G2) ∧ z3r (i + 1) ks l l2) := rfl
end
theorem xx : type_of% (And.intro @xk1 <| And.intro @xk2 <| And.intro @xk3 <| And.intro @xk4 <| And.intro @xk5 <| And.intro @xk6 <| And.intro @xk7 <| And.intro @xk8 <| And.intro @y9r <| And.intro @zvs <| And.intro @zp5 <| And.intro @y23 <| And.intro @zp6 <| And.intro @zl0 <| And.intro @zvt <| And.intro @zp7 <| And.intro @zdx <| And.intro @y24 <| And.intro @y25 <| And.intro @y26 <| And.intro @y27 <| And.intro @y9s <| And.intro @zvu <| And.intro @zp8 <| And.intro @zp9 <| And.intro @zpa <| And.intro @zpb <| And.intro @zpc <| And.intro @zl1 <| And.intro @zpd <| And.intro @zdy <| And.intro @zg4 <| And.intro @y28 <| And.intro @y29 <| And.intro @y2a <| And.intro @zg5 <| And.intro @zl2 <| And.intro @zl3 <| And.intro @zvv <| And.intro @sb1 <| @sb2) := And.intro @xk1 <| And.intro @xk2 <| And.intro @xk3 <| And.intro @xk4 <| And.intro @xk5 <| And.intro @xk6 <| And.intro @xk7 <| And.intro @xk8 <| And.intro @y9r <| And.intro @zvs <| And.intro @zp5 <| And.intro @y23 <| And.intro @zp6 <| And.intro @zl0 <| And.intro @zvt <| And.intro @zp7 <| And.intro @zdx <| And.intro @y24 <| And.intro @y25 <| And.intro @y26 <| And.intro @y27 <| And.intro @y9s <| And.intro @zvu <| And.intro @zp8 <| And.intro @zp9 <| And.intro @zpa <| And.intro @zpb <| And.intro @zpc <| And.intro @zl1 <| And.intro @zpd <| And.intro @zdy <| And.intro @zg4 <| And.intro @y28 <| And.intro @y29 <| And.intro @y2a <| And.intro @zg5 <| And.intro @zl2 <| And.intro @zl3 <| And.intro @zvv <| And.intro @sb1 <| @sb2
theorem y0a {P : Program} {l : List Grp} {xs : List AV} {K : AV → List Grp → Prop} : @opG P .mapSet l xs ⟨K⟩ = @opK P .mapSet (hl l) xs ⟨fun x H' => ∀ l', H' = hl l' → K x l'⟩ := (zrb rfl rfl).trans (by simp only [AK.appOk, zh3, true_and])
attribute [push_cast] zzn y0a
section
variable {P : Program} {n b : Nat} {Q : Ex → Env → z02 → Prop} {ks : List Nat} {gs : List (Option Nat)} {g : Nat} {env : Env} {l : List Grp} {K : Env → List Grp → Prop} {f : Bool} {fl : List Bool} {r : List AOp} {dst : Option Nat} {args : List AArg} {k : AK}
variable {l2 : List Grp}
end
def Ent (n b : Nat) (env : Env) (H : z02) (env' : Env) (H' : z02) : Prop := ∀ (S : MS) (val : Nat → Value), b ≤ S.n → SRel S H → (∀ i, i < n → VRel S (env i) (val i)) →
 ∃ S', S'.w = S.w ∧ BEvo b S S' ∧ SRel S' H' ∧ ∀ i, i < n → VRel S' (env' i) (val i)
section
variable {P : Program} {n b : Nat} {env env' : Env} {H H' : z02} {Q : Ex → Env → z02 → Prop}
theorem Ent.refl : Ent n b env H env H := fun S val hb hS hv => ⟨S, rfl, .refl hb, hS, hv⟩
theorem Ent.trans {env2 : Env} {H2 : z02} (h1 : Ent n b env H env' H') (h2 : Ent n b env' H' env2 H2) : Ent n b env H env2 H2 := fun S val hb hS hv => by
 obtain ⟨S1, a1, a2, a3, a4⟩ := h1 S val hb hS hv
 obtain ⟨S2, c1, c2, c3, c4⟩ := h2 S1 val a2.n a3 a4
 exact ⟨S2, c1.trans a1, a2.trans c2, c3, c4⟩
theorem y9t {c : AC} (he : Ent n b env H env' H') (h : T P n b c env' H' Q) : T P n b c env H Q := by
 intro rd mm hrd code hc S a hbS hS hF
 obtain ⟨S', hw, hev, hS', hv⟩ := he S (fun i => a.tmps.getD i undef) hbS hS hF.val
 have := h rd mm hrd code hc S' a hev.n hS' ⟨hF.size, hF.defers.of hev.base hev.size hev.keep hev.fresh (fun b hb => hev.kept b (.inr hb)), hv⟩
 rw [hw] at this
 exact wpIn_mono this fun e a w hh => hh.trans hev
theorem y5z {σ : Type} (Fact : σ → Prop) (μ : σ → Nat) (envs : σ → Env) (heap : σ → z02) {c : AC} (s0 : σ) (h0 : Fact s0) (he : Ent n b env H (envs s0) (heap s0))
   (round : ∀ s, Fact s → T P n b c (envs s) (heap s) (Ex.then (fun env' H' => ∃ s', Ent n b env' H' (envs s') (heap s') ∧ Fact s' ∧ μ s' < μ s) Q)) : T P n b (.loop c) env H Q := by
 refine y1u (fun s env H => Fact s ∧ Ent n b env H (envs s) (heap s)) μ s0 ⟨h0, he⟩ fun s env H hI => ?_
 refine y9t hI.2 (T.mono (round s hI.1) fun x env' H' hh => ?_)
 cases x with
 | normal => obtain ⟨s', k1, k2, k3⟩ := hh; exact ⟨s', ⟨k2, k1⟩, k3⟩
 | exit id => exact hh
 | ret => exact hh
theorem zid (live : List (Nat × AV)) (h : ∀ p ∈ live, env p.1 = p.2) : Ent n b env H (z3t live) H := fun S val hb hS hv => by
 refine ⟨S, rfl, .refl hb, hS, fun i hi => ?_⟩
 have key : ∀ (l : List (Nat × AV)), (∀ p ∈ l, env p.1 = p.2) → VRel S (z3t l i) (val i) := fun l => by
   induction l with
   | nil => exact fun _ => trivial
   | cons p l ih =>
     intro hp
     obtain ⟨t, y⟩ := p
     show VRel S (if i = t then y else z3t l i) _
     split
     · rename_i hit
       subst hit
       have e : env i = y := hp (i, y) (by simp)
       rw [← e]
       exact hv i hi
     · exact ih fun p hp' => hp p (by simp [hp'])
 exact key live h
mutual
theorem zpe : ∀ x : AV, ren (fun g => g) x = x
 | .any | .bool _ | .int _ _ | .str _ | .nilS | .nul | .emp | .nilP | .nilF | .yld _ | .lst _ _ | .full _ _ | .cptr _ | .map _ _ | .ref _ _ _ _ | .ptr _ _ _ _ => rfl
 | .agg cs => by rw [ren, z7e cs]
 | .tup cs => by rw [ren, z7e cs]
 | .fn f cs => by rw [ren, z7e cs]
theorem z7e : ∀ xs : List AV, renL (fun g => g) xs = xs
 | [] => rfl
 | x :: xs => by rw [renL, zpe x, z7e xs]
end
theorem zvw {l gar : List Grp} (hb : b ≤ l.length) (hcl : ∀ G ∈ l, ltL l.length G.xs) (hlive : ∀ i, i < n → ltV l.length (env i)) : Ent n b env (hl (l ++ gar)) env (hl l) := fun S val hbS hS hv => by
 have hn : S.n = l.length + gar.length := by rw [← List.length_append]; exact hS.n
 have hat : ∀ g, g < l.length → (hl (l ++ gar)).at_ g = (hl l).at_ g := fun g hg => by
   rw [z2z, z2z]; simp [List.getD, List.getElem?_append_left hg]
 let S' : MS := { S with n := l.length }
 have hdown : ∀ (x : AV) {v : Value}, ltV l.length x → VRel S x v → VRel S' x v := fun x v hx h => by
   rw [← zpe x] at h
   exact zow (A := S') (B := S) (σ := fun g => g) (m := l.length) rfl (fun b hb => hb) (fun g hg => ⟨hg, rfl, rfl, rfl, rfl⟩) x hx h
 have hdownL : ∀ (xs : List AV) {vs : List Value}, ltL l.length xs → z04 S xs vs → z04 S' xs vs := fun xs vs hx h => by
   rw [← z7e xs] at h
   exact z4w (A := S') (B := S) (σ := fun g => g) (m := l.length) rfl (fun b hb => hb) (fun g hg => ⟨hg, rfl, rfl, rfl, rfl⟩) xs hx h
 refine ⟨S', rfl, ⟨rfl, rfl, rfl, rfl, Nat.le_refl _, fun _ _ => rfl, fun _ h => h, fun _ h => h, fun _ h => .inl h, hb, fun _ _ => Nat.le_refl _, fun _ _ _ => ⟨rfl, rfl, rfl⟩⟩, ⟨rfl, fun g hg => ?_, fun g g' hg hg' hne hw hw' => ?_, hS.im⟩, fun i hi => hdown _ (hlive i hi) (hv i hi)⟩
 · have hg' : g < l.length := hg
   have hG := hS.grp g (by show g < (l ++ gar).length; rw [List.length_append]; omega)
   rw [hat g hg'] at hG
   have hm : (hl l).at_ g ∈ l := by rw [z2z, List.getD_eq_getElem?_getD, List.getElem?_eq_getElem hg']; exact List.getElem_mem _
   have hc := hcl _ hm
   refine ⟨hG.ver, hG.wid, fun hw hcap => ?_, hG.len, hG.full, fun hw he => ?_⟩
   · obtain ⟨⟨cells, TT, vs, a1, a2, a3, a4⟩, a5⟩ := hG.live hw hcap
     exact ⟨⟨cells, TT, vs, a1, a2, hdownL _ hc a3, a4⟩, a5⟩
   · obtain ⟨⟨es, clock, a1, a2⟩, a5⟩ := hG.mlive hw he
     exact ⟨⟨es, clock, a1, hdownL _ hc a2⟩, a5⟩
 · have hg1 : g < l.length := hg
   have hg2 : g' < l.length := hg'
   rw [← hat g hg1] at hw
   rw [← hat g' hg2] at hw'
   exact hS.apart g g' (by show g < (l ++ gar).length; rw [List.length_append]; omega) (by show g' < (l ++ gar).length; rw [List.length_append]; omega) hne hw hw'
theorem y0b {l : List Grp} (ws : List Nat) (hw : ∀ w ∈ ws, 0 < w) : Ent n b env (hl l) env (hl (l ++ ws.map z8t)) := fun S val hbS hS hv => by
 obtain ⟨S', e1, e2, e3, e4⟩ := zi7 ws (env := fun i => if i < n then env i else .any) (val := val) hw hS (fun i => by
   show VRel S (if i < n then env i else .any) _
   split
   · exact hv i (by assumption)
   · trivial)
 refine ⟨S', e1, e2.down hbS, e3, fun i hi => ?_⟩
 have := e4 i
 simp only [if_pos hi] at this
 exact this
theorem y9u {l l' : List Grp} (h : z73 l l l') (hv : ∀ i, i < n → leS l (env i) (env' i)) : Ent n b env (hl l) env' (hl l') := fun S val hbS hS hval =>
 ⟨S, rfl, .refl hbS, z7w hS h, fun i hi => zjx (.inl hS) _ (hv i hi) (hval i hi)⟩
theorem y60 (i d : Nat) (ks : List Nat) (hok : z2j d (H.only ks) (env i)) : Ent n b env H (env.put (some i) (frzV d (H.only ks) (env i))) (H.kill ks) := fun S val hbS hS hv => by
 refine ⟨S.kill H ks, rfl, (z9b ks hS).down hbS, zol ks hS, fun j hj => ?_⟩
 show VRel _ (if j = i then _ else _) _
 split
 · rename_i hji
   subst hji
   exact zom ks hS d hok (hv j hj)
 · exact VRel.mono (z9b ks hS) _ (hv j hj)
theorem y61 {c : AC} (he : Ent n b env H env' H') (h : @z8q ⟨T P n b c env' H' Q⟩) : @z8q ⟨T P n b c env H Q⟩ := y9t he h
end
end Go.Proofs.Yticodgjinajkpaa.Abs
namespace Go.Proofs.Yticodgjinajkpaa
open Abs
def z3v (r : Rule) : Bool := decide ((r.guards.length : Int) = 0)
def toD (l : List Rule) (i : Nat) : List Int := (l.filter fun r => z3v r && decide (r.from_ = i)).map (·.to_)
def inD (l : List Rule) (j : Nat) : Int := ((l.filter fun r => z3v r && decide (r.to_ = j)).length : Int)
def cntE (l : List Rule) (P : List Int) (j : Nat) : Int := ((l.filter fun r => z3v r && (decide (r.to_ = j) && !decide (r.from_ ∈ P))).length : Int)
theorem zie (l : List Rule) (j : Nat) : cntE l [] j = inD l j := by simp [cntE, inD]
theorem y62 (l : List Rule) (P : List Int) (j : Nat) : 0 ≤ cntE l P j := by simp only [cntE]; omega
theorem y63 (l : List Rule) (P : List Int) (j : Nat) : cntE l P j ≤ cntE l [] j := by
 simp only [cntE]
 have : (l.filter fun r => z3v r && (decide (r.to_ = j) && !decide (r.from_ ∈ P))).length ≤ (l.filter fun r => z3v r && (decide (r.to_ = j) && !decide (r.from_ ∈ ([] : List Int)))).length := by
   induction l with
   | nil => simp
   | cons r l ih =>
     simp only [List.filter_cons]
     cases z3v r <;> cases decide (r.to_ = (j : Int)) <;> cases decide (r.from_ ∈ P) <;> simp at ih ⊢ <;> omega
 omega
theorem zif {s j : Nat} {P : List Int} (hs : (s : Int) ∉ P) : ∀ l : List Rule, cntE l (P ++ [(s : Int)]) j + ((toD l s).count (j : Int) : Int) = cntE l P j
 | [] => by simp [cntE, toD]
 | r :: l => by
   have ih := zif (j := j) hs l
   simp only [cntE, toD, List.filter_cons] at ih ⊢
   cases he : z3v r
   · simpa using ih
   · simp only [Bool.true_and]
     by_cases ht : r.to_ = j
     · by_cases hf : r.from_ = s
       · have h1 : r.from_ ∈ P ++ [(s : Int)] := by simp [hf]
         have h2 : r.from_ ∉ P := by rw [hf]; exact hs
         simp only [ht, hf] at h1 h2 ⊢
         simp only [decide_true, h1, h2, decide_false, Bool.not_true, Bool.not_false, Bool.and_false, Bool.and_true, if_true, Bool.false_eq_true, if_false, List.length_cons, List.map_cons, List.count_cons_self, ht]
         push_cast
         omega
       · have h1 : (r.from_ ∈ P ++ [(s : Int)]) ↔ r.from_ ∈ P := by simp [hf]
         by_cases h2 : r.from_ ∈ P
         · simp only [ht, hf, h1, h2, decide_true, decide_false, Bool.not_true, Bool.and_false, Bool.false_eq_true, if_false]
           exact ih
         · simp only [ht, hf, h1, h2, decide_true, decide_false, Bool.not_false, Bool.and_true, if_true, Bool.false_eq_true, if_false, List.length_cons]
           push_cast
           omega
     · by_cases hf : r.from_ = s
       · simp only [ht, hf, decide_false, decide_true, Bool.false_and, Bool.false_eq_true, if_false, if_true, List.map_cons]
         rw [List.count_cons_of_ne ht]
         exact ih
       · simp only [ht, hf, decide_false, Bool.false_and, Bool.false_eq_true, if_false]
         exact ih
theorem z81 : ∀ {a b : List Int}, a.Nodup → (∀ x ∈ a, x ∈ b) → a.length ≤ b.length
 | [], b, _, _ => Nat.zero_le _
 | x :: a, b, hn, h => by
   obtain ⟨h1, h2⟩ := List.nodup_cons.1 hn
   have hx := h x (by simp)
   have := z81 (a := a) (b := b.erase x) h2 fun y hy => (List.mem_erase_of_ne (fun (e : y = x) => h1 (by rw [← e]; exact hy))).2 (h y (by simp [hy]))
   rw [List.length_erase_of_mem hx] at this
   have := List.length_pos_of_mem hx
   simp only [List.length_cons]
   omega
def idsN (n : Nat) : List Int := (List.range n).map fun (i : Nat) => (i : Int)
theorem zvx (n : Nat) : (idsN n).Nodup := by
 rw [idsN, List.nodup_iff_pairwise_ne, List.pairwise_map]
 exact (List.nodup_iff_pairwise_ne.1 (List.nodup_range)).imp fun h e => h (by omega)
theorem zig {n : Nat} {x : Int} : x ∈ idsN n ↔ 0 ≤ x ∧ x < n := by
 simp only [idsN, List.mem_map, List.mem_range]
 constructor
 · rintro ⟨i, hi, rfl⟩; omega
 · rintro ⟨h1, h2⟩; exact ⟨x.toNat, by omega, by omega⟩
def y2b (l : List Rule) (n : Nat) (C : Int → Prop) : Prop := ∀ j, C j → (0 ≤ j ∧ j < n) ∧ ∃ r ∈ l, z3v r = true ∧ r.to_ = j ∧ C r.from_
def cycP (l : List Rule) (n : Nat) : Prop := ∃ C, y2b l n C ∧ ∃ j, C j
structure KInv (l : List Rule) (n : Nat) (D : List Int) (I : Nat → Int) : Prop where
 nodup : D.Nodup
 range : ∀ x ∈ D, 0 ≤ x ∧ x < n
 zero : ∀ j, j < n → ((j : Int) ∈ D ↔ I j = 0)
 apart : ∀ C, y2b l n C → ∀ x ∈ D, ¬ C x
theorem KInv.len {l : List Rule} {n : Nat} {D : List Int} {I : Nat → Int} (h : KInv l n D I) : D.length ≤ n := by
 have := z81 h.nodup fun x hx => zig.2 (h.range x hx)
 simpa [idsN] using this
def z8x (f : Nat → Int) (k : Nat) : List Int := ((List.range k).filter fun j => decide (f j = 0)).map fun (j : Nat) => (j : Int)
theorem zrl (f : Nat → Int) (k : Nat) : z8x f (k + 1) = if f k = 0 then z8x f k ++ [(k : Int)] else z8x f k := by
 rw [z8x, List.range_succ, List.filter_append, List.map_append]
 split
 · rename_i h; simp [z8x, h]
 · rename_i h; simp [z8x, h]
theorem zvy (f : Nat → Int) (k : Nat) : (z8x f k).length ≤ k := by
 have := List.length_filter_le (fun j => decide (f j = 0)) (List.range k)
 simpa [z8x] using this
theorem y64 {l : List Rule} {r : Rule} {j : Nat} (hr : r ∈ l) (he : z3v r = true) (ht : r.to_ = j) : 0 < inD l j := by
 have : 0 < (l.filter fun r => z3v r && decide (r.to_ = j)).length := List.length_pos_of_mem (List.mem_filter.2 ⟨hr, by simp [he, ht]⟩)
 simp only [inD]; omega
theorem y0c {l : List Rule} {P : List Int} {r : Rule} {j : Nat} (hr : r ∈ l) (he : z3v r = true) (ht : r.to_ = j) (hf : r.from_ ∉ P) : 0 < cntE l P j := by
 have : 0 < (l.filter fun r => z3v r && (decide (r.to_ = j) && !decide (r.from_ ∈ P))).length := List.length_pos_of_mem (List.mem_filter.2 ⟨hr, by simp [he, ht, hf]⟩)
 simp only [cntE]; omega
theorem zrm (l : List Rule) (n : Nat) : KInv l n (z8x (inD l) n) (cntE l []) where
 nodup := by
   rw [z8x, List.nodup_iff_pairwise_ne, List.pairwise_map]
   exact ((List.nodup_iff_pairwise_ne.1 (List.nodup_range)).filter _).imp fun h e => h (by omega)
 range x hx := by
   obtain ⟨i, hi, rfl⟩ := List.mem_map.1 hx
   have := (List.mem_filter.1 hi).1
   simp at this
   omega
 zero j hj := by
   rw [zie]
   simp only [z8x, List.mem_map, List.mem_filter, List.mem_range, decide_eq_true_eq]
   constructor
   · rintro ⟨i, ⟨h1, h2⟩, e⟩
     obtain rfl : i = j := by omega
     exact h2
   · intro h; exact ⟨j, ⟨hj, h⟩, rfl⟩
 apart C hC x hx hCx := by
   obtain ⟨i, hi, rfl⟩ := List.mem_map.1 hx
   have h0 := (List.mem_filter.1 hi).2
   simp only [decide_eq_true_eq] at h0
   obtain ⟨_, r, hr, he, ht, _⟩ := hC _ hCx
   have := y64 hr he ht
   omega
def z4f (l : List Rule) (P : List Int) (s m : Nat) (j : Nat) : Int := cntE l P j - (((toD l s).take m).count (j : Int) : Int)
theorem zg6 (l : List Rule) (P : List Int) (s : Nat) : z4f l P s 0 = cntE l P := by funext j; simp [z4f]
theorem zvz {l : List Rule} {P : List Int} {s : Nat} (hs : (s : Int) ∉ P) : z4f l P s (toD l s).length = cntE l (P ++ [(s : Int)]) := by
 funext j
 have := zif (j := j) hs l
 rw [z4f, List.take_length]
 omega
theorem zpf {l : List Rule} {P : List Int} {s m j : Nat} (hs : (s : Int) ∉ P) : cntE l (P ++ [(s : Int)]) j ≤ z4f l P s m j := by
 have h1 := zif (j := j) hs l
 have h2 := (List.take_sublist m (toD l s)).count_le (j : Int)
 rw [z4f]
 omega
theorem zar {l : List Rule} {P : List Int} {s m t : Nat} (hm : m < (toD l s).length) (ht : nth (toD l s) m = t) : z4f l P s (m + 1) = fun j => if j = t then z4f l P s m t - 1 else z4f l P s m j := by
 funext j
 rw [z4f, take_at hm, List.count_append, ht]
 by_cases e : j = t
 · subst e; simp [z4f]; omega
 · have h0 : List.count (j : Int) [(t : Int)] = 0 := List.count_eq_zero.2 (by simp; omega)
   rw [if_neg e, h0, z4f]; omega
theorem zl4 {l : List Rule} {P : List Int} {s m t : Nat} (hs : (s : Int) ∉ P) (hm : m < (toD l s).length) (ht : nth (toD l s) m = t) : 0 < z4f l P s m t := by
 have h1 := zpf (l := l) (m := m + 1) (j := t) hs
 have h2 := y62 l (P ++ [(s : Int)]) t
 rw [zar hm ht] at h1
 simp only [if_true] at h1
 omega
theorem zw0 {l : List Rule} {n : Nat} {P td : List Int} {s m t : Nat} (hs : (s : Int) ∉ P) (hm : m < (toD l s).length) (ht : nth (toD l s) m = t) (htn : t < n) (h : KInv l n (P ++ [(s : Int)] ++ td) (z4f l P s m)) :
   KInv l n (P ++ [(s : Int)] ++ if z4f l P s m t - 1 = 0 then td ++ [(t : Int)] else td) (z4f l P s (m + 1)) := by
 have hp := zl4 hs hm ht
 have hno : (t : Int) ∉ P ++ [(s : Int)] ++ td := fun hh => by
   have := (h.zero t htn).1 hh
   omega
 have hst := zar (P := P) hm ht
 split
 · rename_i h0
   rw [← List.append_assoc]
   refine ⟨List.nodup_append.2 ⟨h.nodup, by simp, fun a ha b hb => ?_⟩, fun x hx => ?_, fun j hj => ?_, fun C hC x hx hCx => ?_⟩
   · simp only [List.mem_singleton] at hb
     subst hb
     exact fun e => hno (e ▸ ha)
   · rcases List.mem_append.1 hx with hx | hx
     · exact h.range x hx
     · simp only [List.mem_singleton] at hx; omega
   · rw [hst, List.mem_append, List.mem_singleton]
     by_cases e : j = t
     · subst e; simp [h0]
     · simp only [if_neg e]
       rw [← h.zero j hj]
       exact ⟨fun hh => hh.elim id fun hh => absurd hh (by omega), .inl⟩
   · rcases List.mem_append.1 hx with hx | hx
     · exact h.apart C hC x hx hCx
     · simp only [List.mem_singleton] at hx
       subst hx
       obtain ⟨_, r, hr, he, hrt, hrf⟩ := hC _ hCx
       have hf : r.from_ ∉ P ++ [(s : Int)] := fun hh => h.apart C hC _ (List.mem_append.2 (.inl hh)) hrf
       have h1 := y0c hr he hrt hf
       have h2 := zpf (l := l) (m := m + 1) (j := t) hs
       rw [hst] at h2
       simp only [if_true] at h2
       omega
 · rename_i h0
   refine ⟨h.nodup, h.range, fun j hj => ?_, h.apart⟩
   rw [hst]
   by_cases e : j = t
   · subst e; simp only [if_true]; exact ⟨fun hh => absurd hh hno, fun hh => absurd hh h0⟩
   · simp only [if_neg e]; exact h.zero j hj
theorem zw1 {l : List Rule} {n : Nat} {P : List Int} (hl : ∀ r ∈ l, 0 ≤ r.from_ ∧ r.from_ < n) (h : KInv l n P (cntE l P)) : P.length < n ↔ cycP l n := by
 constructor
 · intro hlt
   refine ⟨fun j => (0 ≤ j ∧ j < n) ∧ j ∉ P, fun j hj => ⟨hj.1, ?_⟩, ?_⟩
   · have h0 : cntE l P j.toNat ≠ 0 := fun h0 => hj.2 (by
       have := (h.zero j.toNat (by omega)).2 h0
       rwa [show ((j.toNat : Nat) : Int) = j by omega] at this)
     have : 0 < (l.filter fun r => z3v r && (decide (r.to_ = (j.toNat : Nat)) && !decide (r.from_ ∈ P))).length := by
       simp only [cntE] at h0; omega
     obtain ⟨r, hr⟩ := List.exists_mem_of_length_pos this
     obtain ⟨h1, h2⟩ := List.mem_filter.1 hr
     simp only [Bool.and_eq_true, decide_eq_true_eq, Bool.not_eq_true', decide_eq_false_iff_not] at h2
     exact ⟨r, h1, h2.1, by rw [h2.2.1]; omega, hl r h1, h2.2.2⟩
   · refine Classical.byContradiction fun hno => ?_
     have := z81 (zvx n) fun x hx => Classical.byContradiction fun hp => hno ⟨x, zig.1 hx, hp⟩
     simp [idsN] at this
     omega
 · rintro ⟨C, hC, j, hj⟩
   have hr := (hC j hj).1
   have hjP : j ∉ P := fun hh => h.apart C hC j hh hj
   have := z81 (a := j :: P) (b := idsN n) (List.nodup_cons.2 ⟨hjP, h.nodup⟩) fun x hx => by
     rcases List.mem_cons.1 hx with rfl | hx
     · exact zig.2 hr
     · exact zig.2 (h.range x hx)
   simp [idsN] at this
   omega
def onF (l : List Rule) (on : Nat → Bool) (j : Nat) : Bool := l.any fun r => z3v r && (on r.from_.toNat && decide (r.to_ = j))
def onK (l : List Rule) : Nat → Nat → Bool
 | 0 => fun _ => true
 | k + 1 => onF l (onK l k)
def zas (l : List Rule) (on : Nat → Bool) : Bool := l.any fun r => z3v r && on r.from_.toNat
def cycR (l : List Rule) (n : Nat) : Bool := (List.range (n + 1)).all fun k => zas l (onK l k)
theorem y0d {l : List Rule} {p q : Nat → Bool} (h : ∀ j, p j = true → q j = true) (j : Nat) : onF l p j = true → onF l q j = true := by
 simp only [onF, List.any_eq_true, Bool.and_eq_true, decide_eq_true_eq]
 rintro ⟨r, hr, h1, h2, h3⟩
 exact ⟨r, hr, h1, h _ h2, h3⟩
theorem zpg (l : List Rule) : ∀ (k j : Nat), onK l (k + 1) j = true → onK l k j = true
 | 0, j, _ => rfl
 | k + 1, j, h => y0d (fun j => zpg l k j) j h
theorem filter_lt {p q : Nat → Bool} (h : ∀ j, p j = true → q j = true) : ∀ {l : List Nat} {x : Nat}, x ∈ l → q x = true → p x = false → (l.filter p).length < (l.filter q).length
 | [], _, hx, _, _ => by cases hx
 | y :: l, x, hx, hq, hp => by
   have hle : ∀ l : List Nat, (l.filter p).length ≤ (l.filter q).length := fun l => by
     induction l with
     | nil => simp
     | cons a l ih =>
       simp only [List.filter_cons]
       have := h a
       cases hpa : p a <;> cases hqa : q a <;> simp_all <;> omega
   simp only [List.filter_cons]
   rcases List.mem_cons.1 hx with rfl | hx
   · have := hle l
     simp only [hp, hq, Bool.false_eq_true, if_false, if_true, List.length_cons]
     omega
   · have ih := filter_lt h hx hq hp
     have := h y
     cases hpa : p y <;> cases hqa : q y <;> simp_all <;> omega
theorem y0e {l : List Rule} {n : Nat} (hl : ∀ r ∈ l, (0 ≤ r.from_ ∧ r.from_ < n) ∧ 0 ≤ r.to_ ∧ r.to_ < n) : cycR l n = true ↔ cycP l n := by
 rw [cycR, List.all_eq_true]
 constructor
 · intro h
   have hex : ∃ k, k ≤ n ∧ ∀ j, j < n → onK l k j = true → onK l (k + 1) j = true := by
     refine Classical.byContradiction fun hno => ?_
     have hstep : ∀ k, k ≤ n → ∃ j, j < n ∧ onK l k j = true ∧ onK l (k + 1) j = false := fun k hk => Classical.byContradiction fun hc => hno ⟨k, hk, fun j hj h1 => by
       cases h2 : onK l (k + 1) j
       · exact absurd ⟨j, hj, h1, h2⟩ hc
       · rfl⟩
     have key : ∀ k, k ≤ n + 1 → ((List.range n).filter (onK l k)).length + k ≤ n := fun k => by
       induction k with
       | zero =>
         intro _
         have := List.length_filter_le (onK l 0) (List.range n)
         simpa using this
       | succ k ih =>
         intro hk
         obtain ⟨j, hj, h1, h2⟩ := hstep k (by omega)
         have := filter_lt (fun j => zpg l k j) (List.mem_range.2 hj) h1 h2
         have := ih (by omega)
         omega
     have := key (n + 1) (Nat.le_refl _)
     omega
   obtain ⟨k, hk, hs⟩ := hex
   refine ⟨fun j => 0 ≤ j ∧ j < n ∧ onK l k j.toNat = true, fun j hj => ⟨⟨hj.1, hj.2.1⟩, ?_⟩, ?_⟩
   · have h1 := hs j.toNat (by omega) hj.2.2
     simp only [onK, onF, List.any_eq_true, Bool.and_eq_true, decide_eq_true_eq] at h1
     obtain ⟨r, hr, he, hf, ht⟩ := h1
     have hb := hl r hr
     exact ⟨r, hr, he, by omega, by omega, by omega, hf⟩
   · have h1 := h k (by simp; omega)
     simp only [zas, List.any_eq_true, Bool.and_eq_true] at h1
     obtain ⟨r, hr, _, hf⟩ := h1
     have hb := hl r hr
     exact ⟨r.from_, by omega, by omega, hf⟩
 · rintro ⟨C, hC, j, hj⟩ k _
   have key : ∀ k i, C i → onK l k i.toNat = true := fun k => by
     induction k with
     | zero => exact fun _ _ => rfl
     | succ k ih =>
       intro i hi
       obtain ⟨h1, r, hr, he, ht, hf⟩ := hC i hi
       simp only [onK, onF, List.any_eq_true, Bool.and_eq_true, decide_eq_true_eq]
       exact ⟨r, hr, he, ih _ hf, by omega⟩
   obtain ⟨_, r, hr, he, _, hf⟩ := hC j hj
   simp only [zas, List.any_eq_true, Bool.and_eq_true]
   exact ⟨r, hr, he, key k _ hf⟩
end Go.Proofs.Yticodgjinajkpaa
