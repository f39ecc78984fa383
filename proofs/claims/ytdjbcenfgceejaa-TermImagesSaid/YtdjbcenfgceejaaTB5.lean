/-
  A call that knows some of the groups only, among others: these stay as they are.
  What a call leaves, without what is of no use any more.
  Functions that hand on rows: their code, carried out between the rounds.
  Contracts of layers 2, 3: sorts; parts.
  Contracts of layer 4: terms.
  Contracts of layer 4: values; terms put together and bound.
  Contracts of layer 4: terms put together and bound.
  Contracts of layer 4: the document's terms put together, and bound; terms alike.
  Contracts of layer 4: terms bound; terms alike.
  Plain laws of layer 4: what terms put together, and bound, tell.
  What comes in, as the program's data.
  Contracts of layer 4's statements: the document's examples; rightness, values.
  Contracts of layer 4's statements: terms put together, and bound.
  A loop of few rounds, walked round by round.
-/
import Derived.LoopNIn
import Derived.Test.YtdjbcenfgceejaaTB4
import Derived.Test.YtdjbcenfgceejaaTB3
import Derived.Test.YtdjbcenfgceejaaTB2
set_option linter.unusedSimpArgs false
set_option linter.unusedVariables false
namespace Go.Proofs.Ytdjbcenfgceejaa.Abs
mutual
def ren (σ : Nat → Nat) : AV → AV
  | .any => .any
  | .bool b => .bool b
  | .int k n => .int k n
  | .str s => .str s
  | .nilS => .nilS
  | .nul => .nul
  | .emp => .emp
  | .lst w xs => .lst w xs
  | .full w xs => .full w xs
  | .map g v => .map (σ g) v
  | .ref g v o n => .ref (σ g) v o n
  | .cptr x => .cptr x
  | .ptr g v i o => .ptr (σ g) v i o
  | .nilP => .nilP
  | .agg cs => .agg (renL σ cs)
  | .tup cs => .tup (renL σ cs)
  | .fn f cs => .fn f (renL σ cs)
  | .nilF => .nilF
  | .yld l => .yld l
def renL (σ : Nat → Nat) : List AV → List AV
  | [] => []
  | x :: xs => ren σ x :: renL σ xs
end
mutual
def ltV (m : Nat) : AV → Prop
  | .map g _ | .ref g _ _ _ | .ptr g _ _ _ => g < m
  | .agg cs | .tup cs | .fn _ cs => ltL m cs
  | .any | .bool _ | .int .. | .str _ | .nilS | .nul | .emp | .lst .. | .full .. | .cptr _ | .nilP | .nilF | .yld _ => True
def ltL (m : Nat) : List AV → Prop
  | [] => True
  | x :: xs => ltV m x ∧ ltL m xs
end
def renG (σ : Nat → Nat) (G : Grp) : Grp := ⟨G.w, G.ver, G.exact, renL σ G.xs⟩
mutual
theorem ren_up {A B : MS} {σ : Nat → Nat} (hw : B.w = A.w) (hi : ∀ b, A.im b → B.im b) (hg : ∀ g, g < A.n → σ g < B.n ∧ B.cur (σ g) = A.cur g ∧ B.place (σ g) = A.place g ∧ B.cap (σ g) = A.cap g ∧ B.wid (σ g) = A.wid g) : ∀ (x : AV) {v : Value}, VRel A x v → VRel B (ren σ x) v
  | .any, _, _ => trivial
  | .bool _, _, h => h
  | .int _ _, _, h => h
  | .str _, _, h => h
  | .nilS, _, h => h
  | .nul, _, h => h
  | .emp, _, h => h
  | .nilP, _, h => h
  | .nilF, _, h => h
  | .yld _, _, h => h
  | .lst wd xs, v, h => by
    obtain ⟨hp, h0, a, cap, vs, hv, hc, hl, hr⟩ := h
    refine ⟨hp, h0, a, cap, vs, hv, hc, VsRel.of_pure hw hi hp hl, fun hne => ?_⟩
    obtain ⟨b, o, ha, hb, hrow⟩ := hr hne
    exact ⟨b, o, ha, hi b hb, by rw [hw]; exact hrow⟩
  | .full wd xs, v, h => by
    obtain ⟨hp, h0, a, vs, hv, hc, hl, hr⟩ := h
    refine ⟨hp, h0, a, vs, hv, hc, VsRel.of_pure hw hi hp hl, fun hne => ?_⟩
    obtain ⟨b, o, ha, hb, hrow⟩ := hr hne
    exact ⟨b, o, ha, hi b hb, by rw [hw]; exact hrow⟩
  | .cptr x, v, h => by
    obtain ⟨hp, b, o, u, hv, hb, hx, hl⟩ := h
    exact ⟨hp, b, o, u, hv, hi b hb, VRel.of_pure hw hi hp hx, by rw [hw]; exact hl⟩
  | .map g vn, v, h => by
    obtain ⟨hs, hgn, hc, hv⟩ := h
    obtain ⟨k1, k2, k3, k4, k5⟩ := hg g hgn
    exact ⟨hs, k1, by rw [k2]; exact hc, fun h' => by rw [k3]; exact hv (by rw [← k2]; exact h')⟩
  | .ref g vn off len, v, h => by
    obtain ⟨hs, hgn, hc, hv⟩ := h
    obtain ⟨k1, k2, k3, k4, k5⟩ := hg g hgn
    exact ⟨hs, k1, by rw [k2]; exact hc, fun h' => by rw [k3, k4, k5]; exact hv (by rw [← k2]; exact h')⟩
  | .ptr g vn i o, v, h => by
    obtain ⟨hs, hgn, hc, hv⟩ := h
    obtain ⟨k1, k2, k3, k4, k5⟩ := hg g hgn
    exact ⟨hs, k1, by rw [k2]; exact hc, fun h' => by rw [k3, k5]; exact hv (by rw [← k2]; exact h')⟩
  | .agg cs, v, h => by obtain ⟨vs, hv, h⟩ := h; exact ⟨vs, hv, renL_up hw hi hg cs h⟩
  | .tup cs, v, h => by obtain ⟨vs, hv, h⟩ := h; exact ⟨vs, hv, renL_up hw hi hg cs h⟩
  | .fn f cs, v, h => by obtain ⟨vs, hv, h⟩ := h; exact ⟨vs, hv, renL_up hw hi hg cs h⟩
theorem renL_up {A B : MS} {σ : Nat → Nat} (hw : B.w = A.w) (hi : ∀ b, A.im b → B.im b) (hg : ∀ g, g < A.n → σ g < B.n ∧ B.cur (σ g) = A.cur g ∧ B.place (σ g) = A.place g ∧ B.cap (σ g) = A.cap g ∧ B.wid (σ g) = A.wid g) : ∀ (xs : List AV) {vs : List Value}, VsRel A xs vs → VsRel B (renL σ xs) vs
  | [], _, h => h
  | x :: xs, _, h => by
    obtain ⟨v, r, hv, h1, h2⟩ := h
    exact ⟨v, r, hv, ren_up hw hi hg x h1, renL_up hw hi hg xs h2⟩
end
mutual
theorem ren_down {A B : MS} {σ : Nat → Nat} {m : Nat} (hw : A.w = B.w) (hi : ∀ b, B.im b → A.im b) (hg : ∀ g, g < m → g < A.n ∧ B.cur (σ g) = A.cur g ∧ B.place (σ g) = A.place g ∧ B.cap (σ g) = A.cap g ∧ B.wid (σ g) = A.wid g) : ∀ (x : AV) {v : Value}, ltV m x → VRel B (ren σ x) v → VRel A x v
  | .any, _, _, _ => trivial
  | .bool _, _, _, h => h
  | .int _ _, _, _, h => h
  | .str _, _, _, h => h
  | .nilS, _, _, h => h
  | .nul, _, _, h => h
  | .emp, _, _, h => h
  | .nilP, _, _, h => h
  | .nilF, _, _, h => h
  | .yld _, _, _, h => h
  | .lst wd xs, v, _, h => by
    obtain ⟨hp, h0, a, cap, vs, hv, hc, hl, hr⟩ := h
    refine ⟨hp, h0, a, cap, vs, hv, hc, VsRel.of_pure hw hi hp hl, fun hne => ?_⟩
    obtain ⟨b, o, ha, hb, hrow⟩ := hr hne
    exact ⟨b, o, ha, hi b hb, by rw [hw]; exact hrow⟩
  | .full wd xs, v, _, h => by
    obtain ⟨hp, h0, a, vs, hv, hc, hl, hr⟩ := h
    refine ⟨hp, h0, a, vs, hv, hc, VsRel.of_pure hw hi hp hl, fun hne => ?_⟩
    obtain ⟨b, o, ha, hb, hrow⟩ := hr hne
    exact ⟨b, o, ha, hi b hb, by rw [hw]; exact hrow⟩
  | .cptr x, v, _, h => by
    obtain ⟨hp, b, o, u, hv, hb, hx, hl⟩ := h
    exact ⟨hp, b, o, u, hv, hi b hb, VRel.of_pure hw hi hp hx, by rw [hw]; exact hl⟩
  | .map g vn, v, hm, h => by
    obtain ⟨hs, hgn, hc, hv⟩ := h
    obtain ⟨k1, k2, k3, k4, k5⟩ := hg g hm
    exact ⟨hs, k1, by rw [← k2]; exact hc, fun h' => by rw [← k3]; exact hv (by rw [k2]; exact h')⟩
  | .ref g vn off len, v, hm, h => by
    obtain ⟨hs, hgn, hc, hv⟩ := h
    obtain ⟨k1, k2, k3, k4, k5⟩ := hg g hm
    exact ⟨hs, k1, by rw [← k2]; exact hc, fun h' => by rw [← k3, ← k4, ← k5]; exact hv (by rw [k2]; exact h')⟩
  | .ptr g vn i o, v, hm, h => by
    obtain ⟨hs, hgn, hc, hv⟩ := h
    obtain ⟨k1, k2, k3, k4, k5⟩ := hg g hm
    exact ⟨hs, k1, by rw [← k2]; exact hc, fun h' => by rw [← k3, ← k5]; exact hv (by rw [k2]; exact h')⟩
  | .agg cs, v, hm, h => by obtain ⟨vs, hv, h⟩ := h; exact ⟨vs, hv, renL_down hw hi hg cs hm h⟩
  | .tup cs, v, hm, h => by obtain ⟨vs, hv, h⟩ := h; exact ⟨vs, hv, renL_down hw hi hg cs hm h⟩
  | .fn f cs, v, hm, h => by obtain ⟨vs, hv, h⟩ := h; exact ⟨vs, hv, renL_down hw hi hg cs hm h⟩
theorem renL_down {A B : MS} {σ : Nat → Nat} {m : Nat} (hw : A.w = B.w) (hi : ∀ b, B.im b → A.im b) (hg : ∀ g, g < m → g < A.n ∧ B.cur (σ g) = A.cur g ∧ B.place (σ g) = A.place g ∧ B.cap (σ g) = A.cap g ∧ B.wid (σ g) = A.wid g) : ∀ (xs : List AV) {vs : List Value}, ltL m xs → VsRel B (renL σ xs) vs → VsRel A xs vs
  | [], _, _, h => h
  | x :: xs, _, hm, h => by
    obtain ⟨v, r, hv, h1, h2⟩ := h
    exact ⟨v, r, hv, ren_down hw hi hg x hm.1 h1, renL_down hw hi hg xs hm.2 h2⟩
end
theorem renL_len {σ : Nat → Nat} : ∀ xs : List AV, (renL σ xs).length = xs.length
  | [] => rfl
  | x :: xs => by simp [renL, renL_len xs]
def sg (ks : List Nat) (N i : Nat) : Nat := if i < ks.length then ks.getD i 0 else N + (i - ks.length)
def iv (ks : List Nat) (N g : Nat) : Nat := if g < N then ks.idxOf g else ks.length + (g - N)
def setG : List Nat → List Grp → List Grp → List Grp
  | [], r, l => l ++ r
  | _ :: _, [], l => l
  | k :: ks, G :: r, l => setG ks r (l.set k G)
theorem setG_len : ∀ {ks : List Nat} {r l : List Grp}, ks.length ≤ r.length → (setG ks r l).length = l.length + (r.length - ks.length)
  | [], r, l, _ => by simp [setG]
  | k :: ks, [], l, h => by simp at h
  | k :: ks, G :: r, l, h => by
    rw [setG, setG_len (by simpa using h)]
    simp
theorem setG_other : ∀ {ks : List Nat} {r l : List Grp} {g : Nat}, g < l.length → g ∉ ks → (setG ks r l).getD g default = l.getD g default
  | [], r, l, g, hg, _ => by simp [setG, List.getD, List.getElem?_append_left hg]
  | k :: ks, [], l, g, _, _ => rfl
  | k :: ks, G :: r, l, g, hg, hk => by
    simp only [List.mem_cons, not_or] at hk
    rw [setG, setG_other (by simpa using hg) hk.2]
    simp [List.getD, List.getElem?_set_ne (fun h => hk.1 h.symm)]
theorem setG_at : ∀ {ks : List Nat} {r l : List Grp} {i : Nat}, ks.Nodup → (∀ k ∈ ks, k < l.length) → i < r.length → (setG ks r l).getD (sg ks l.length i) default = r.getD i default
  | [], r, l, i, _, _, hi => by
    simp only [setG, sg, List.length_nil, Nat.not_lt_zero, if_false, Nat.sub_zero, List.getD]
    rw [List.getElem?_append_right (by omega), Nat.add_sub_cancel_left]
  | k :: ks, [], l, i, _, _, hi => by simp at hi
  | k :: ks, G :: r, l, 0, hn, hk, _ => by
    rw [List.nodup_cons] at hn
    have h1 : k < l.length := hk k (by simp)
    have e : sg (k :: ks) l.length 0 = k := by simp [sg]
    rw [e, setG, setG_other (by simpa using h1) hn.1]
    simp [List.getD, List.getElem?_set_self h1]
  | k :: ks, G :: r, l, i + 1, hn, hk, hi => by
    rw [List.nodup_cons] at hn
    have e : sg (k :: ks) l.length (i + 1) = sg ks (l.set k G).length i := by simp [sg]
    rw [e, setG, setG_at hn.2 (fun k' h' => by simpa using hk k' (by simp [h'])) (by simpa using hi)]
    simp
theorem sg_lt {ks : List Nat} {N i n : Nat} (hk : ∀ k ∈ ks, k < N) (hi : i < n) (hm : ks.length ≤ n) : sg ks N i < N + (n - ks.length) := by
  unfold sg
  split
  · rename_i h
    have : ks.getD i 0 ∈ ks := by rw [List.getD_eq_getElem?_getD, List.getElem?_eq_getElem h]; exact List.getElem_mem h
    have := hk _ this
    omega
  · omega
theorem iv_sg {ks : List Nat} {N i : Nat} (hn : ks.Nodup) (hk : ∀ k ∈ ks, k < N) : iv ks N (sg ks N i) = i := by
  unfold sg
  split
  · rename_i h
    have hmem : ks.getD i 0 ∈ ks := by rw [List.getD_eq_getElem?_getD, List.getElem?_eq_getElem h]; exact List.getElem_mem h
    rw [iv, if_pos (hk _ hmem), List.getD_eq_getElem?_getD, List.getElem?_eq_getElem h]
    exact hn.idxOf_getElem i h
  · rw [iv, if_neg (by omega)]; omega
theorem sg_mem {ks : List Nat} {N g : Nat} (hg : g ∈ ks) : ∃ i, i < ks.length ∧ sg ks N i = g := by
  obtain ⟨i, hi, he⟩ := List.getElem_of_mem hg
  exact ⟨i, hi, by rw [sg, if_pos hi, List.getD_eq_getElem?_getD, List.getElem?_eq_getElem hi]; exact he⟩
theorem sg_cover {ks : List Nat} {N g n : Nat} (hm : ks.length ≤ n) (hg : g < N + (n - ks.length)) (h : ¬ (g < N ∧ g ∉ ks)) : ∃ i, i < n ∧ sg ks N i = g := by
  by_cases hgN : g < N
  · have hmem : g ∈ ks := by
      by_cases hh : g ∈ ks
      · exact hh
      · exact absurd ⟨hgN, hh⟩ h
    obtain ⟨i, hi, he⟩ := sg_mem (N := N) hmem
    exact ⟨i, by omega, he⟩
  · exact ⟨ks.length + (g - N), by omega, by rw [sg, if_neg (by omega)]; omega⟩
theorem getD_map_ren {σ : Nat → Nat} {l : List Grp} {i : Nat} (h : i < l.length) : (l.map (renG σ)).getD i default = renG σ (l.getD i default) := by
  simp [List.getD, List.getElem?_eq_getElem h]
theorem acalls_at {P : Program} {f : Nat} {xs0 xs : List AV} {l0 l : List Grp} {K0 K : AV → AHeap → Prop} (ks : List Nat) (h : ACalls P f xs0 (hl l0) K0) (hxs : renL (sg ks l.length) xs0 = xs)
    (hl0 : l0.map (renG (sg ks l.length)) = ks.map (fun k => l.getD k default)) (hn : ks.Nodup) (hk : ∀ k ∈ ks, k < l.length) (hlt : ltL ks.length xs0) (hltG : ∀ G ∈ l0, ltL ks.length G.xs)
    (hK : ∀ y H', K0 y H' → ∃ l', H' = hl l' ∧ ks.length ≤ l'.length ∧ K (ren (sg ks l.length) y) (hl (setG ks (l'.map (renG (sg ks l.length))) l))) : ACalls P f xs (hl l) K := by
  refine ⟨h.1, fun S cargs hS hx => ?_⟩
  have hm : l0.length = ks.length := by simpa using congrArg List.length hl0
  have hSn : S.n = l.length := hS.n
  have hinj : ∀ i j, sg ks l.length i = sg ks l.length j → i = j := fun i j e => by rw [← iv_sg (i := i) hn hk, e, iv_sg hn hk]
  have hin : ∀ i, i < ks.length → sg ks l.length i < l.length ∧ sg ks l.length i ∈ ks := fun i hi => by
    have e : sg ks l.length i = ks[i] := by rw [sg, if_pos hi, List.getD_eq_getElem?_getD, List.getElem?_eq_getElem hi]; rfl
    rw [e]
    exact ⟨hk _ (List.getElem_mem hi), List.getElem_mem hi⟩
  have hat : ∀ i, i < ks.length → l.getD (sg ks l.length i) default = renG (sg ks l.length) (l0.getD i default) := fun i hi => by
    rw [← getD_map_ren (by omega), hl0, sg, if_pos hi]
    simp [List.getD, List.getElem?_eq_getElem hi]
  have hG : ∀ i, i < ks.length → GRel S (renG (sg ks l.length) (l0.getD i default)) (sg ks l.length i) := fun i hi => by
    have := hS.grp (sg ks l.length i) (hin i hi).1
    rwa [hl_at, hat i hi] at this
  obtain ⟨O, hO⟩ : ∃ O : Nat → Prop, ∀ b, O b ↔ ∃ g, g < l.length ∧ g ∉ ks ∧ (l.getD g default).has (S.cap g) ∧ S.place g = b := ⟨_, fun _ => Iff.rfl⟩
  have hOfree : ∀ b, O b → ¬ (S.im b ∨ S.keep b) := fun b hb => by
    obtain ⟨g, h1, h2, h3, rfl⟩ := (hO b).1 hb
    exact (hS.grp g h1).has_ni (by rw [hl_at]; exact h3)
  obtain ⟨S0, hS0d⟩ : ∃ S0 : MS, S0 = { S with keep := fun b => S.keep b ∨ O b, n := ks.length, place := fun i => S.place (sg ks l.length i), cur := fun i => S.cur (sg ks l.length i), cap := fun i => S.cap (sg ks l.length i), wid := fun i => S.wid (sg ks l.length i) } := ⟨_, rfl⟩
  have hdn : ∀ g, g < ks.length → g < S0.n ∧ S.cur (sg ks l.length g) = S0.cur g ∧ S.place (sg ks l.length g) = S0.place g ∧ S.cap (sg ks l.length g) = S0.cap g ∧ S.wid (sg ks l.length g) = S0.wid g := fun g hg => by
    subst hS0d; exact ⟨hg, rfl, rfl, rfl, rfl⟩
  have hw0 : S0.w = S.w := by subst hS0d; rfl
  have hi0 : ∀ b, S.im b → S0.im b := fun b hb => by subst hS0d; exact hb
  have hrel0 : SRel S0 (hl l0) := by
    refine ⟨by subst hS0d; exact hm.symm, fun i hi => ?_, fun i j hi hj hne h1 h2 => ?_, fun b hb => ?_⟩
    · have hi' : i < ks.length := by rw [← hm]; exact hi
      have hg := hG i hi'
      have hmem : l0.getD i default ∈ l0 := by rw [List.getD_eq_getElem?_getD, List.getElem?_eq_getElem (show i < l0.length from hi)]; exact List.getElem_mem _
      have hlg := hltG _ hmem
      rw [hl_at]
      have hnO : (l0.getD i default).has (S.cap (sg ks l.length i)) → ¬ O (S.place (sg ks l.length i)) := fun hh ho => by
        obtain ⟨g, a1, a2, a3, a4⟩ := (hO _).1 ho
        exact hS.apart g (sg ks l.length i) a1 (hin i hi').1 (fun e => a2 (e ▸ (hin i hi').2)) (by rw [hl_at]; exact a3) (by rw [hl_at, hat i hi']; exact hh) a4
      refine ⟨by subst hS0d; exact hg.ver, by subst hS0d; exact hg.wid, fun hw hc => ?_, fun hw => by have := hg.len hw; subst hS0d; simpa [renG, renL_len] using this, fun hw he => by have := hg.full hw he; subst hS0d; simpa [renG, renL_len] using this, fun hw he => ?_⟩
      · have hc' : 0 < S.cap (sg ks l.length i) := by subst hS0d; exact hc
        obtain ⟨⟨cells, T, vs, b1, b2, b3, b4⟩, ni⟩ := hg.live hw hc'
        refine ⟨⟨cells, T, vs, by subst hS0d; exact b1, by subst hS0d; exact b2, renL_down hw0 hi0 hdn _ hlg b3, b4⟩, fun hh => ?_⟩
        have hno := hnO (.inl ⟨hw, hc'⟩)
        subst hS0d
        exact hh.elim (fun hh => ni (.inl hh)) (fun hh => hh.elim (fun hh => ni (.inr hh)) hno)
      · obtain ⟨⟨es, clock, b1, b2⟩, ni⟩ := hg.mlive hw he
        refine ⟨⟨es, clock, by subst hS0d; exact b1, renL_down hw0 hi0 hdn _ hlg b2⟩, fun hh => ?_⟩
        have hno := hnO (.inr ⟨hw, he⟩)
        subst hS0d
        exact hh.elim (fun hh => ni (.inl hh)) (fun hh => hh.elim (fun hh => ni (.inr hh)) hno)
    · have hi' : i < ks.length := by rw [← hm]; exact hi
      have hj' : j < ks.length := by rw [← hm]; exact hj
      rw [hl_at] at h1 h2
      have := hS.apart (sg ks l.length i) (sg ks l.length j) (hin i hi').1 (hin j hj').1 (fun e => hne (hinj _ _ e)) (by rw [hl_at, hat i hi']; subst hS0d; exact h1) (by rw [hl_at, hat j hj']; subst hS0d; exact h2)
      subst hS0d
      exact this
    · subst hS0d
      rcases hb with hb | hb | hb
      · exact hS.im b (.inl hb)
      · exact hS.im b (.inr hb)
      · obtain ⟨g, a1, a2, a3, rfl⟩ := (hO _).1 hb
        exact (hS.grp g a1).has_lt (by rw [hl_at]; exact a3)
  have hx0 : VsRel S0 xs0 cargs := renL_down hw0 hi0 hdn xs0 hlt (by rw [hxs]; exact hx)
  have hsz : S0.w.heap = S.w.heap := by rw [hw0]
  have hcall := h.2 S0 cargs hrel0 hx0
  rw [hw0] at hcall
  refine hcall.mono fun e w' hh => ?_
  obtain ⟨v, S1, y, H', he, hw1, ev, hS1, hv, hk0⟩ := hh
  obtain ⟨l', rfl, hml, hK'⟩ := hK y H' hk0
  have hn1 : S1.n = l'.length := hS1.n
  have hnot : ∀ i, ¬ (sg ks l.length i < l.length ∧ sg ks l.length i ∉ ks) := fun i hh => by
    by_cases hi : i < ks.length
    · exact hh.2 (hin i hi).2
    · have : sg ks l.length i = l.length + (i - ks.length) := by rw [sg, if_neg hi]
      omega
  obtain ⟨S', hS'd⟩ : ∃ S' : MS, S' = { w := S1.w, im := S1.im, keep := fun b => S1.keep b ∧ ¬ O b, n := l.length + (l'.length - ks.length), place := fun g => if g < l.length ∧ g ∉ ks then S.place g else S1.place (iv ks l.length g), cur := fun g => if g < l.length ∧ g ∉ ks then S.cur g else S1.cur (iv ks l.length g), cap := fun g => if g < l.length ∧ g ∉ ks then S.cap g else S1.cap (iv ks l.length g), wid := fun g => if g < l.length ∧ g ∉ ks then S.wid g else S1.wid (iv ks l.length g), base := S1.base } := ⟨_, rfl⟩
  have hoth : ∀ g, g < l.length → g ∉ ks → S'.place g = S.place g ∧ S'.cur g = S.cur g ∧ S'.cap g = S.cap g ∧ S'.wid g = S.wid g := fun g h1 h2 => by
    subst hS'd
    exact ⟨if_pos ⟨h1, h2⟩, if_pos ⟨h1, h2⟩, if_pos ⟨h1, h2⟩, if_pos ⟨h1, h2⟩⟩
  have hour : ∀ i, S'.place (sg ks l.length i) = S1.place i ∧ S'.cur (sg ks l.length i) = S1.cur i ∧ S'.cap (sg ks l.length i) = S1.cap i ∧ S'.wid (sg ks l.length i) = S1.wid i := fun i => by
    subst hS'd
    refine ⟨?_, ?_, ?_, ?_⟩ <;> simp only [if_neg (hnot i), iv_sg hn hk]
  have hn' : S'.n = l.length + (l'.length - ks.length) := by subst hS'd; rfl
  have hwS' : S'.w = S1.w := by subst hS'd; rfl
  have hup : ∀ g, g < S1.n → sg ks l.length g < S'.n ∧ S'.cur (sg ks l.length g) = S1.cur g ∧ S'.place (sg ks l.length g) = S1.place g ∧ S'.cap (sg ks l.length g) = S1.cap g ∧ S'.wid (sg ks l.length g) = S1.wid g := fun g hg => by
    obtain ⟨a1, a2, a3, a4⟩ := hour g
    exact ⟨by rw [hn']; exact sg_lt hk (by omega) hml, a2, a1, a3, a4⟩
  have hiS' : ∀ b, S1.im b → S'.im b := fun b hb => by subst hS'd; exact hb
  have hkS0 : ∀ b, O b → S0.keep b := fun b hb => by subst hS0d; exact .inr hb
  have hn0 : S0.n = ks.length := by subst hS0d; rfl
  have hevo : Evo S S' := by
    refine ⟨?_, ?_, ?_, ?_, ?_, fun b hb => ?_, fun b hb => ?_, fun b hb => ?_, fun b hb => ?_, ?_, fun g hg => ?_, fun g hg he => ?_⟩
    · have := ev.base; subst hS'd; subst hS0d; exact this
    · have := ev.os; rw [hw0] at this; rw [hwS']; exact this
    · have := ev.tape; rw [hw0] at this; rw [hwS']; exact this
    · have := ev.output; rw [hw0] at this; rw [hwS']; exact this
    · have := ev.size; rw [hw0] at this; rw [hwS']; exact this
    · have := ev.kept b (by subst hS0d; exact hb.imp id .inl); rw [hw0] at this; rw [hwS']; exact this
    · exact hiS' b (ev.im b (hi0 b hb))
    · have h1 := ev.keep b (by subst hS0d; exact .inl hb)
      subst hS'd
      exact ⟨h1, fun ho => hOfree b ho (.inr hb)⟩
    · have h1 := ev.fresh b (by subst hS'd; exact hb)
      subst hS0d
      exact h1.imp id fun hh h2 => hh (.inl h2)
    · rw [hn', hSn]; omega
    · rw [hSn] at hg
      by_cases hmem : g ∈ ks
      · obtain ⟨i, hi, rfl⟩ := sg_mem (N := l.length) hmem
        rw [(hour i).2.1]
        have := ev.cur i (by rw [hn0]; exact hi)
        subst hS0d
        exact this
      · rw [(hoth g hg hmem).2.1]; exact Nat.le_refl _
    · rw [hSn] at hg
      by_cases hmem : g ∈ ks
      · obtain ⟨i, hi, rfl⟩ := sg_mem (N := l.length) hmem
        obtain ⟨a1, a2, a3, a4⟩ := hour i
        rw [a1, a3, a4]
        rw [a2] at he
        have := ev.same i (by rw [hn0]; exact hi) (by subst hS0d; exact he)
        subst hS0d
        exact this
      · obtain ⟨a1, a2, a3, a4⟩ := hoth g hg hmem
        exact ⟨a1, a3, a4⟩
  have hlen : (setG ks (l'.map (renG (sg ks l.length))) l).length = l.length + (l'.length - ks.length) := by rw [setG_len (by simpa using hml)]; simp
  have hatO : ∀ g, g < l.length → g ∉ ks → (setG ks (l'.map (renG (sg ks l.length))) l).getD g default = l.getD g default := fun g h1 h2 => setG_other h1 h2
  have hatI : ∀ i, i < l'.length → (setG ks (l'.map (renG (sg ks l.length))) l).getD (sg ks l.length i) default = renG (sg ks l.length) (l'.getD i default) := fun i hi => by
    rw [setG_at hn hk (by simpa using hi), getD_map_ren hi]
  have hrel' : SRel S' (hl (setG ks (l'.map (renG (sg ks l.length))) l)) := by
    have hcov : ∀ g, g < (setG ks (l'.map (renG (sg ks l.length))) l).length → (g < l.length ∧ g ∉ ks) ∨ ∃ i, i < l'.length ∧ sg ks l.length i = g := fun g hg => by
      by_cases hh : g < l.length ∧ g ∉ ks
      · exact .inl hh
      · exact .inr (sg_cover hml (by rw [← hlen]; exact hg) hh)
    have hfree1 : ∀ i, i < l'.length → (l'.getD i default).has (S1.cap i) → ¬ S1.keep (S1.place i) := fun i hi hh hkk => (hS1.grp i hi).has_ni (by rw [hl_at]; exact hh) (.inr hkk)
    refine ⟨by rw [hn']; exact hlen.symm, fun g hg => ?_, fun g g' hg hg' hne h1 h2 => ?_, fun b hb => ?_⟩
    · rcases hcov g hg with ⟨h1, h2⟩ | ⟨i, hi, rfl⟩
      · have hr := hS.grp g h1
        obtain ⟨a1, a2, a3, a4⟩ := hoth g h1 h2
        rw [hl_at] at hr ⊢
        rw [hatO g h1 h2]
        have hblk : (l.getD g default).has (S.cap g) → S'.w.heap[S.place g]? = S.w.heap[S.place g]? := fun hh => by
          have := ev.kept (S.place g) (.inr (hkS0 _ ((hO _).2 ⟨g, h1, h2, hh, rfl⟩)))
          rw [hw0] at this; rw [hwS']; exact this
        have hnik : (l.getD g default).has (S.cap g) → ¬ (S'.im (S.place g) ∨ S'.keep (S.place g)) := fun hh hik => by
          have ho : O (S.place g) := (hO _).2 ⟨g, h1, h2, hh, rfl⟩
          rcases hik with hik | hik
          · rcases ev.fresh (S.place g) (by subst hS'd; exact hik) with h3 | h3
            · exact hOfree _ ho (.inl (by subst hS0d; exact h3))
            · exact h3 (hkS0 _ ho)
          · subst hS'd; exact hik.2 ho
        refine ⟨by rw [a2]; exact hr.ver, by rw [a4]; exact hr.wid, fun hw hc => ?_, fun hw => by rw [a3]; exact hr.len hw, fun hw he => by rw [a3]; exact hr.full hw he, fun hw he => ?_⟩
        · rw [a3] at hc
          obtain ⟨⟨cells, T, vs, b1, b2, b3, b4⟩, ni⟩ := hr.live hw hc
          rw [a1, a3]
          exact ⟨⟨cells, T, vs, by rw [hblk (.inl ⟨hw, hc⟩)]; exact b1, b2, b3.mono hevo, b4⟩, hnik (.inl ⟨hw, hc⟩)⟩
        · obtain ⟨⟨es, clock, b1, b2⟩, ni⟩ := hr.mlive hw he
          rw [a1]
          exact ⟨⟨es, clock, by rw [hblk (.inr ⟨hw, he⟩)]; exact b1, b2.mono hevo⟩, hnik (.inr ⟨hw, he⟩)⟩
      · have hr := hS1.grp i hi
        obtain ⟨a1, a2, a3, a4⟩ := hour i
        rw [hl_at] at hr ⊢
        rw [hatI i hi]
        have hnik : ¬ (S1.im (S1.place i) ∨ S1.keep (S1.place i)) → ¬ (S'.im (S1.place i) ∨ S'.keep (S1.place i)) := fun hh hik => by
          subst hS'd
          exact hh (hik.imp id fun h3 => h3.1)
        refine ⟨by rw [a2]; exact hr.ver, by rw [a4]; exact hr.wid, fun hw hc => ?_, fun hw => by rw [a3]; have := hr.len hw; simpa [renG, renL_len] using this, fun hw he => by rw [a3]; have := hr.full hw he; simpa [renG, renL_len] using this, fun hw he => ?_⟩
        · rw [a3] at hc
          obtain ⟨⟨cells, T, vs, b1, b2, b3, b4⟩, ni⟩ := hr.live hw hc
          rw [a1, a3]
          exact ⟨⟨cells, T, vs, by rw [hwS']; exact b1, b2, renL_up hwS' hiS' hup _ b3, b4⟩, hnik ni⟩
        · obtain ⟨⟨es, clock, b1, b2⟩, ni⟩ := hr.mlive hw he
          rw [a1]
          exact ⟨⟨es, clock, by rw [hwS']; exact b1, renL_up hwS' hiS' hup _ b2⟩, hnik ni⟩
    · have hmix : ∀ g i, g < l.length → g ∉ ks → i < l'.length → (l.getD g default).has (S.cap g) → (l'.getD i default).has (S1.cap i) → S.place g ≠ S1.place i := fun g i b1 b2 b3 b4 b5 e => by
        have h3 := ev.keep _ (hkS0 _ ((hO _).2 ⟨g, b1, b2, b4, rfl⟩))
        rw [e] at h3
        exact hfree1 i b3 b5 h3
      rw [hl_at] at h1 h2
      rcases hcov g hg with ⟨c1, c2⟩ | ⟨i, hi, rfl⟩ <;> rcases hcov g' hg' with ⟨d1, d2⟩ | ⟨j, hj, rfl⟩
      · rw [hatO g c1 c2, (hoth g c1 c2).2.2.1] at h1
        rw [hatO g' d1 d2, (hoth g' d1 d2).2.2.1] at h2
        rw [(hoth g c1 c2).1, (hoth g' d1 d2).1]
        exact hS.apart g g' c1 d1 hne (by rw [hl_at]; exact h1) (by rw [hl_at]; exact h2)
      · rw [hatO g c1 c2, (hoth g c1 c2).2.2.1] at h1
        rw [hatI j hj, (hour j).2.2.1] at h2
        rw [(hoth g c1 c2).1, (hour j).1]
        exact hmix g j c1 c2 hj h1 h2
      · rw [hatI i hi, (hour i).2.2.1] at h1
        rw [hatO g' d1 d2, (hoth g' d1 d2).2.2.1] at h2
        rw [(hoth g' d1 d2).1, (hour i).1]
        exact fun e => hmix g' i d1 d2 hi h2 h1 e.symm
      · rw [hatI i hi, (hour i).2.2.1] at h1
        rw [hatI j hj, (hour j).2.2.1] at h2
        rw [(hour i).1, (hour j).1]
        exact hS1.apart i j hi hj (fun e => hne (by rw [e])) (by rw [hl_at]; exact h1) (by rw [hl_at]; exact h2)
    · rw [hwS']
      refine hS1.im b ?_
      subst hS'd
      exact hb.imp id fun h3 => h3.1
  exact ⟨v, S', _, _, he, by rw [hwS']; exact hw1, hevo, hrel', ren_up hwS' hiS' hup y hv, hK'⟩
mutual
theorem ren_pure (σ : Nat → Nat) : ∀ (x : AV), x.pure = true → ren σ x = x
  | .any, _ => rfl
  | .bool _, _ => rfl
  | .int _ _, _ => rfl
  | .str _, _ => rfl
  | .nilS, _ => rfl
  | .nul, _ => rfl
  | .emp, _ => rfl
  | .lst _ _, _ => rfl
  | .full _ _, _ => rfl
  | .cptr _, _ => rfl
  | .nilP, _ => rfl
  | .nilF, _ => rfl
  | .yld _, _ => rfl
  | .map _ _, h => by cases h
  | .ref _ _ _ _, h => by cases h
  | .ptr _ _ _ _, h => by cases h
  | .agg cs, h => by rw [ren, renL_pure σ cs h]
  | .tup cs, h => by rw [ren, renL_pure σ cs h]
  | .fn f cs, h => by rw [ren, renL_pure σ cs h]
theorem renL_pure (σ : Nat → Nat) : ∀ (xs : List AV), pureL xs = true → renL σ xs = xs
  | [], _ => rfl
  | x :: xs, h => by
    simp only [pureL, Bool.and_eq_true] at h
    rw [renL, ren_pure σ x h.1, renL_pure σ xs h.2]
end
mutual
theorem lt_pure (m : Nat) : ∀ (x : AV), x.pure = true → ltV m x
  | .any, _ => trivial
  | .bool _, _ => trivial
  | .int _ _, _ => trivial
  | .str _, _ => trivial
  | .nilS, _ => trivial
  | .nul, _ => trivial
  | .emp, _ => trivial
  | .lst _ _, _ => trivial
  | .full _ _, _ => trivial
  | .cptr _, _ => trivial
  | .nilP, _ => trivial
  | .nilF, _ => trivial
  | .yld _, _ => trivial
  | .map _ _, h => by cases h
  | .ref _ _ _ _, h => by cases h
  | .ptr _ _ _ _, h => by cases h
  | .agg cs, h => ltL_pure m cs h
  | .tup cs, h => ltL_pure m cs h
  | .fn f cs, h => ltL_pure m cs h
theorem ltL_pure (m : Nat) : ∀ (xs : List AV), pureL xs = true → ltL m xs
  | [], _ => trivial
  | x :: xs, h => by
    simp only [pureL, Bool.and_eq_true] at h
    exact ⟨lt_pure m x h.1, ltL_pure m xs h.2⟩
end
def renM (σ : Nat → Nat) (xs : List AV) : List AV := renL σ xs
def ltM (m : Nat) (xs : List AV) : Prop := ltL m xs
section
variable {ks : List Nat} {N i m g k v o n w f : Nat} {x : AV} {xs cs : List AV} {e : Bool} {G : Grp} {r l : List Grp}
theorem renL_eq : renL (sg ks N) xs = bif pureL xs then xs else renM (sg ks N) xs := by
  cases h : pureL xs
  · rfl
  · exact renL_pure _ xs h
theorem ltL_eq : ltL m xs = ifB (pureL xs) (ltM m xs) := propext ⟨fun h => .inr h, fun h => h.elim (ltL_pure m xs) id⟩
theorem renM_nil : renM (sg ks N) [] = [] := rfl
theorem renM_cons : renM (sg ks N) (x :: xs) = ren (sg ks N) x :: renM (sg ks N) xs := rfl
theorem ltM_nil : ltM m [] = True := rfl
theorem ltM_cons : ltM m (x :: xs) = (ltV m x ∧ ltM m xs) := rfl
theorem re_any : ren (sg ks N) .any = .any := rfl
theorem re_bool {b : Bool} : ren (sg ks N) (.bool b) = .bool b := rfl
theorem re_int {q : IntKind} {z : Int} : ren (sg ks N) (.int q z) = .int q z := rfl
theorem re_str {s : List UInt8} : ren (sg ks N) (.str s) = .str s := rfl
theorem re_nilS : ren (sg ks N) .nilS = .nilS := rfl
theorem re_nul : ren (sg ks N) .nul = .nul := rfl
theorem re_emp : ren (sg ks N) .emp = .emp := rfl
theorem re_nilP : ren (sg ks N) .nilP = .nilP := rfl
theorem re_nilF : ren (sg ks N) .nilF = .nilF := rfl
theorem re_lst : ren (sg ks N) (.lst w xs) = .lst w xs := rfl
theorem re_full : ren (sg ks N) (.full w xs) = .full w xs := rfl
theorem re_cptr : ren (sg ks N) (.cptr x) = .cptr x := rfl
theorem re_ref : ren (sg ks N) (.ref g v o n) = .ref (sg ks N g) v o n := rfl
theorem re_ptr : ren (sg ks N) (.ptr g v i o) = .ptr (sg ks N g) v i o := rfl
theorem re_map : ren (sg ks N) (.map g v) = .map (sg ks N g) v := rfl
theorem re_agg : ren (sg ks N) (.agg cs) = .agg (renL (sg ks N) cs) := rfl
theorem re_tup : ren (sg ks N) (.tup cs) = .tup (renL (sg ks N) cs) := rfl
theorem re_fn : ren (sg ks N) (.fn f cs) = .fn f (renL (sg ks N) cs) := rfl
theorem lv_any : ltV m .any = True := rfl
theorem lv_bool {b : Bool} : ltV m (.bool b) = True := rfl
theorem lv_int {q : IntKind} {z : Int} : ltV m (.int q z) = True := rfl
theorem lv_str {s : List UInt8} : ltV m (.str s) = True := rfl
theorem lv_nilS : ltV m .nilS = True := rfl
theorem lv_nul : ltV m .nul = True := rfl
theorem lv_emp : ltV m .emp = True := rfl
theorem lv_nilP : ltV m .nilP = True := rfl
theorem lv_nilF : ltV m .nilF = True := rfl
theorem lv_lst : ltV m (.lst w xs) = True := rfl
theorem lv_full : ltV m (.full w xs) = True := rfl
theorem lv_cptr : ltV m (.cptr x) = True := rfl
theorem lv_ref : ltV m (.ref g v o n) = (g < m) := rfl
theorem lv_ptr : ltV m (.ptr g v i o) = (g < m) := rfl
theorem lv_map : ltV m (.map g v) = (g < m) := rfl
theorem lv_agg : ltV m (.agg cs) = ltL m cs := rfl
theorem lv_tup : ltV m (.tup cs) = ltL m cs := rfl
theorem lv_fn : ltV m (.fn f cs) = ltL m cs := rfl
theorem sg_eq : sg ks N i = if i < ks.length then ks.getD i 0 else N + (i - ks.length) := rfl
theorem reG {σ : Nat → Nat} : renG σ ⟨w, v, e, xs⟩ = ⟨w, v, e, renL σ xs⟩ := rfl
theorem sG_nil : setG [] r l = l ++ r := rfl
theorem sG_cons : setG (k :: ks) (G :: r) l = setG ks r (l.set k G) := rfl
end
attribute [push_cast] renL_eq ltL_eq renM_nil renM_cons ltM_nil ltM_cons re_any re_bool re_int re_str re_nilS re_nul re_emp re_nilP re_nilF re_lst re_full re_cptr re_ref re_ptr re_map re_agg re_tup re_fn
attribute [push_cast] lv_any lv_bool lv_int lv_str lv_nilS lv_nul lv_emp lv_nilP lv_nilF lv_lst lv_full lv_cptr lv_ref lv_ptr lv_map lv_agg lv_tup lv_fn sg_eq reG sG_nil sG_cons List.set_cons_zero List.set_cons_succ List.getD_cons_zero List.getD_cons_succ
theorem at_call {P : Program} {f : Nat} {xs0 xs : List AV} {l0 l : List Grp} {K0 K : AV → AHeap → Prop} (ks : List Nat) (h : ACalls P f xs0 (hl l0) K0) (hn : ks.Nodup) (hk : ∀ k ∈ ks, k < l.length) (hxs : renL (sg ks l.length) xs0 = xs)
    (hl0 : l0.map (renG (sg ks l.length)) = ks.map (fun k => l.getD k default)) (hlt : ltL ks.length xs0) (hltG : ∀ G ∈ l0, ltL ks.length G.xs)
    (hK : ∀ y H', K0 y H' → ∃ l', H' = hl l' ∧ ks.length ≤ l'.length ∧ @nx (ren (sg ks l.length) y) (hl (setG ks (l'.map (renG (sg ks l.length))) l)) ⟨K⟩) : @CallK P f xs (hl l) ⟨K⟩ :=
  acalls_at ks h hxs hl0 hn hk hlt hltG hK
end Go.Proofs.Ytdjbcenfgceejaa.Abs
set_option linter.unusedSimpArgs false
set_option linter.unusedVariables false
namespace Go.Proofs.Ytdjbcenfgceejaa.Abs
section
variable {P : Program} {n b : Nat} {env : Env} {H : AHeap}
theorem liveLe_val {S : MS} {l2 : List Grp} {H1 : AHeap} {ks : List Nat} {val : Nat → Value} (hS : SRel S (hl l2)) (hF : ∀ i, VRel S (rnV b H1 ks 6 (env i)) (val i)) : ∀ {live : List (Nat × AV)}, liveLe l2 H1 b ks env live → ∀ i, VRel S (mkEnv live i) (val i)
  | [], _, i => trivial
  | (t, y) :: r, h, i => by
    show VRel S (if i = t then y else mkEnv r i) _
    split
    · rename_i hit
      subst hit
      exact leS_ok (.inl hS) _ h.1 (hF i)
    · exact liveLe_val hS hF h.2 i
theorem virt_val : ∀ (ws : List Nat) {S : MS} {l : List Grp} {val : Nat → Value}, (∀ w ∈ ws, 0 < w) → SRel S (hl l) → (∀ i, VRel S (env i) (val i)) → ∃ S', S'.w = S.w ∧ Evo S S' ∧ SRel S' (hl (l ++ ws.map virtG)) ∧ ∀ i, VRel S' (env i) (val i)
  | [], S, l, val, _, hS, hF => ⟨S, rfl, .refl S, by simpa using hS, hF⟩
  | w :: ws, S, l, val, hw, hS, hF => by
    have h1 := hS.virt w (hw w (by simp))
    rw [hl_push] at h1
    obtain ⟨S', e1, e2, e3, e4⟩ := virt_val ws (S := S.virt w) (l := l ++ [virtG w]) (fun w' h' => hw w' (by simp [h'])) h1 (fun j => VRel.mono (Evo.virt _) _ (hF j))
    exact ⟨S', e1, (Evo.virt _).trans e2, by simpa using e3, e4⟩
theorem head_val {srcs : List Src} {live : List (Nat × AV)} {heap : List Grp} {S : MS} {val : Nat → Value} (hh : Head b env H srcs live heap) (hbS : b ≤ S.n) (hS : SRel S H) (hF : ∀ i, VRel S (env i) (val i)) :
    ∃ S', S'.w = S.w ∧ BEvo b S S' ∧ SRel S' (hl heap) ∧ ∀ i, VRel S' (mkEnv live i) (val i) := by
  obtain ⟨hb, hh⟩ := hh
  have hgn : H.groups.length = H.n := by simp [AHeap.groups]
  have hS1 : SRel S (hl H.groups) := hS.congr hgn (fun g hg => by
    show H.groups.getD g default = _
    simp [AHeap.groups, List.getD, hg])
  obtain ⟨S2, e1, e2, e3, e4⟩ := virt_val (srcKs H.n srcs).2 (allPos_mem hh.1) hS1 hF
  replace hh := hh.2
  generalize hl1 : H.groups ++ (srcKs H.n srcs).2.map virtG = l1 at *
  obtain ⟨h1, h2, h3, h4⟩ := hh
  have hb1 : b ≤ l1.length := by rw [← hl1, List.length_append]; omega
  have hbS2 : b ≤ S2.n := Nat.le_trans hbS e2.n
  obtain ⟨k1, k2⟩ := repack_hl (ks := (srcKs H.n srcs).1) hb1
  have hev := repack_evo (ks := (srcKs H.n srcs).1) e3 hbS2
  have hrel := (repack_rel (ks := (srcKs H.n srcs).1) 6 e3 hb1 (fun k hk => allB_mem h1 k hk) (diffr_nodup h2)).congr k1 k2
  exact ⟨S2.repack b (hl l1) (srcKs H.n srcs).1, e1, (e2.down hbS).trans hev, grpsLe_rel hrel h4, liveLe_val hrel (fun j => rn_ok e3 6 (e4 j)) h3⟩
def Drop (b : Nat) (y : AV) (H : AHeap) [K : HK] : Prop := ∃ srcs y' heap, Head b (mkEnv [(0, y)]) H srcs [(0, y')] heap ∧ K.f y' (hl heap)
theorem drop_i {y : AV} {K : AV → AHeap → Prop} (srcs : List Src) (y' : AV) (heap : List Grp) (h1 : Head b (mkEnv [(0, y)]) H srcs [(0, y')] heap) (h2 : K y' (hl heap)) : @Drop b y H ⟨K⟩ := ⟨srcs, y', heap, h1, h2⟩
theorem acalls_drop {f : Nat} {xs : List AV} {l : List Grp} {K : AV → AHeap → Prop} (h : ACalls P f xs (hl l) (fun y H' => @Drop l.length y H' ⟨K⟩)) : ACalls P f xs (hl l) K :=
  ⟨h.1, fun S cargs hS hx => (h.2 S cargs hS hx).mono fun e w' hh => by
    obtain ⟨v, S1, y, H', he, hw, ev, hS1, hv, srcs, y', heap, h1, h2⟩ := hh
    have hn : S.n = l.length := hS.n
    obtain ⟨S2, q1, q2, q3, q4⟩ := head_val (S := S1) (val := fun i => if i = 0 then v else undef) h1 (by rw [← hn]; exact ev.n) hS1 (fun i => by
      show VRel S1 (if i = 0 then y else .any) _
      split
      · exact hv
      · trivial)
    have hb := (ev.down (b := l.length) (by omega)).trans q2
    exact ⟨v, S2, y', _, he, q1.trans hw, ⟨hb.base, hb.os, hb.tape, hb.output, hb.size, hb.kept, hb.im, hb.keep, hb.fresh, by rw [hn]; exact hb.n, fun g hg => hb.cur g (by omega), fun g hg => hb.same g (by omega)⟩, q3, q4 0, h2⟩⟩
theorem acalls_v {f m np b : Nat} {xs : List AV} {l : List Grp} {K : AV → AHeap → Prop} {res : List ARes} {B : AC} (hf : compFn P f xs.length = some ⟨m, np, res, B⟩) (hb : b = l.length) (h : W P m b B (entry xs) (hl l) (Ret P res fun y H' => @Drop b y H' ⟨K⟩)) : ACalls P f xs (hl l) K := by
  subst hb
  exact acalls_drop (acalls hf (W_T h))
end
theorem setL_nil (env : Env) : setL env [] [] = env := rfl
theorem setL_cons (env : Env) (p : Nat) (ps : List Nat) (x : AV) (r : List AV) : setL env (p :: ps) (x :: r) = setL (env.put (some p) x) ps r := rfl
attribute [push_cast] setL_nil setL_cons
end Go.Proofs.Ytdjbcenfgceejaa.Abs
set_option linter.unusedSimpArgs false
set_option linter.unusedVariables false
namespace Go.Proofs.Ytdjbcenfgceejaa.Abs
section
variable {P : Program} {n b : Nat} {S : MS} {H : AHeap}
theorem put_defers (a : Act) (d : Option Nat) (v : Value) : (a.put d v).defers = a.defers := by cases d <;> rfl
theorem op_okI (hS : SRel S H) {env : Env} {a : Act} (hF : FRel S n env a) {o : Oper} {q : AOp} {ops : Array Oper} (h : compOp P n ops o = some q) {K : AV → AHeap → Prop} (hst : stepA P q.k H (q.vals env) K)
    {N : Act → World → Prop} {Q : Exit → Act → World → Prop} (hN : ∀ S' H' x a', Evo S S' → SRel S' H' → FRel S' n (env.put q.dst x) a' → a'.defers = a.defers → K x H' → N a' S'.w) (r : Option Nat) (m : Nat) : o.wpIn (fen r) m P a S.w N Q := by
  obtain ⟨h1, h2, h3, h4, _⟩ := compOp_spec h
  have hargs := args_rel hF h2
  have hsem : o.semAt (fen r).round a.eval = execOp a.eval o := Oper.semAt_eq _ _ _ fun c hc => by rw [hc] at h1; cases h1
  rcases step_sound hS o h1 (ρ := a.eval) hargs hst with ⟨v, S', x, H', hr, e, hS', hv, hK⟩ | ⟨f, cargs, hr, hc⟩
  · have hN' := fun v' (hv' : VRel S' x v') => hN S' H' x (a.put o.dst v') e hS' (by rw [h3]; exact (hF.mono e).put h4 hv') (put_defers _ _ _) hK
    refine ⟨fun _ _ => trivial, ?_⟩
    rw [hsem]
    rcases hr with hr | ⟨hr, rfl⟩ <;> rw [hr]
    · exact hN' v hv
    · exact hN' undef hv
  · refine ⟨fun _ _ => trivial, ?_⟩
    rw [hsem, hr, Oper.uponIn_enter]
    refine ⟨fun h => (by cases h), calls_fen (hc.mono fun e w' hh => ?_)⟩
    obtain ⟨v, S', x, H', rfl, rfl, ev, hS', hv, hK⟩ := hh
    exact hN S' H' x (a.put o.dst v) ev hS' (by rw [h3]; exact (hF.mono ev).put h4 hv) (put_defers _ _ _) hK
theorem run_soundI {ops : Array Oper} {Q : Exit → Act → World → Prop} {rd : Option Nat} {m : Nat} (tl : List Nat) : ∀ (l : List Oper) (l' : List AOp) (k : Nat), (∀ j, j < l.length → l[j]? = ops[k + j]?) → l.mapM (compOp P n ops) = some l' → ∀ {S : MS} {H : AHeap} {env : Env} {a : Act} {K : Env → AHeap → Prop},
    SRel S H → FRel S n env a → runK P l' env H K → (∀ S' H' env' a', Evo S S' → SRel S' H' → FRel S' n env' a' → a'.defers = a.defers → K env' H' → wpOpsIn (fen rd) m P ops Q tl a' S'.w) → wpOpsIn (fen rd) m P ops Q (List.range' k l.length ++ tl) a S.w
  | [], l', k, _, hm, S, H, env, a, K, hS, hF, hr, hQ => by
    simp at hm
    subst hm
    exact hQ S H env a (.refl S) hS hF rfl hr
  | o :: l, l', k, hl, hm, S, H, env, a, K, hS, hF, hr, hQ => by
    rw [List.mapM_cons] at hm
    simp only [Option.bind_eq_bind, Option.bind_eq_some_iff, Option.pure_def, Option.some.injEq] at hm
    obtain ⟨q, hq, r, hrr, rfl⟩ := hm
    have h0 : ops[k]? = some o := by simpa using (hl 0 (by simp)).symm
    have hl' : ∀ j, j < l.length → l[j]? = ops[k + 1 + j]? := fun j hj => by have := hl (j + 1) (by simp; omega); simpa [Nat.add_assoc, Nat.add_comm 1 j] using this
    have hg := guardK_spec hq hF hr
    rw [show List.range' k (o :: l).length ++ tl = k :: (List.range' (k + 1) l.length ++ tl) from rfl]
    simp only [wpOpsIn, h0]
    cases hw : Region.wanted o (yielded ops a.tmps)
    · rw [hw] at hg
      simp only [Bool.false_eq_true, if_false] at hg ⊢
      obtain ⟨_, _, h3, h4, _⟩ := compOp_spec hq
      exact ⟨fun _ _ => trivial, run_soundI tl l r (k + 1) hl' hrr hS (by rw [h3]; exact hF.put h4 undef_rel) hg (fun S' H' env' a' e hS' hF' hd => hQ S' H' env' a' e hS' hF' (hd.trans (put_defers _ _ _)))⟩
    · rw [hw] at hg
      simp only [if_true] at hg ⊢
      refine op_okI hS hF hq hg (fun S' H' x a' e hS' hF' hd hK => ?_) rd m
      exact run_soundI tl l r (k + 1) hl' hrr hS' hF' hK (fun S2 H2 env2 a2 e2 hS2 hF2 hd2 hK2 => hQ S2 H2 env2 a2 (e.trans e2) hS2 hF2 (hd2.trans hd) hK2)
end
structure Itr where
  P : Program
  l : Nat
  m : Nat
  rows : List (List AV)
  S0 : MS
  J : Nat → (Nat → Prop) → World → Prop
  Jx : Nat → (Nat → Prop) → World → Prop
  cJ : Clo J
  cx : Clo Jx
  fact : ∀ k O W, J k O W ∨ Jx k O W → (∀ b, S0.im b → ¬ O b ∧ W.heap[b]? = S0.w.heap[b]?) ∧ (W.os = S0.w.os ∧ W.tape = S0.w.tape ∧ W.output = S0.w.output) ∧ S0.w.heap.size ≤ W.heap.size ∧ ∀ b, O b → S0.w.heap.size ≤ b ∧ b < W.heap.size
  round : ∀ k row O W, rows[k]? = some row → J k O W → YieldAt Fence.wide m P l (encI row) W fun e W' => W.heap.size ≤ W'.heap.size ∧ (∀ b, O b → W'.heap[b]? = W.heap[b]?) ∧ (e = .returned (.bool true) ∧ J (k + 1) O W' ∨ e = .returned (.bool false) ∧ Jx (k + 1) O W')
namespace Itr
def at_ (I : Itr) : Option Nat → (Nat → Prop) → World → Prop
  | some k, O, W => I.J k O W
  | none, O, W => ∃ k, I.Jx k O W
structure Now (I : Itr) (s : Option Nat) (X : Nat → Prop) (S : MS) (H : AHeap) : Prop where
  rel : SRel S H
  base : S.base ≤ S.w.heap.size
  keep : ∀ b, X b → S.keep b
  im : ∀ b, I.S0.im b → S.im b
  apart : ∀ b, S.im b → I.S0.im b ∨ ¬ X b
  st : I.at_ s (fun b => b < S.w.heap.size ∧ ¬ X b ∧ ¬ I.S0.im b) S.w
theorem Now.on {I : Itr} {s : Option Nat} {X : Nat → Prop} {S S' : MS} {H H' : AHeap} (h : I.Now s X S H) (e : Evo S S') (hr : SRel S' H') : I.Now s X S' H' := by
  have hX : ∀ b, X b → b < S.w.heap.size := fun b hb => h.rel.im b (.inr (h.keep b hb))
  have hi0 : ∀ b, I.S0.im b → b < S.w.heap.size := fun b hb => h.rel.im b (.inl (h.im b hb))
  refine ⟨hr, by rw [e.base]; exact Nat.le_trans h.base e.size, fun b hb => e.keep b (h.keep b hb), fun b hb => e.im b (h.im b hb), fun b hb => ?_, ?_⟩
  · rcases e.fresh b hb with hh | hh
    · exact h.apart b hh
    · exact .inr fun hx => hh (h.keep b hx)
  · have ho : (fun b => b < S'.w.heap.size ∧ ¬ X b ∧ ¬ I.S0.im b) = fun b => (b < S.w.heap.size ∧ ¬ X b ∧ ¬ I.S0.im b) ∨ (S.w.heap.size ≤ b ∧ b < S'.w.heap.size) := by
      funext b
      refine propext ⟨fun ⟨h1, h2, h3⟩ => ?_, fun hh => ?_⟩
      · rcases Nat.lt_or_ge b S.w.heap.size with hl | hl
        · exact .inl ⟨hl, h2, h3⟩
        · exact .inr ⟨hl, h1⟩
      · rcases hh with ⟨h1, h2, h3⟩ | ⟨h1, h2⟩
        · exact ⟨Nat.lt_of_lt_of_le h1 e.size, h2, h3⟩
        · exact ⟨h2, fun hx => by have := hX b hx; omega, fun hx => by have := hi0 b hx; omega⟩
    rw [ho]
    have hk : ∀ b, b < S.w.heap.size → ¬ (b < S.w.heap.size ∧ ¬ X b ∧ ¬ I.S0.im b) → S'.w.heap[b]? = S.w.heap[b]? := fun b hb hn => by
      by_cases hx : X b
      · exact e.kept b (.inr (h.keep b hx))
      · by_cases hi : I.S0.im b
        · exact e.kept b (.inl (h.im b hi))
        · exact absurd ⟨hb, hx, hi⟩ hn
    cases s with
    | some k => exact I.cJ k _ _ _ h.st e.os e.tape e.output e.size hk
    | none => obtain ⟨k, hj⟩ := h.st; exact ⟨k, I.cx k _ _ _ hj e.os e.tape e.output e.size hk⟩
theorem Now.round {I : Itr} {k : Nat} {X : Nat → Prop} {S : MS} {H : AHeap} (h : I.Now (some k) X S H) {W' : World} {s' : Option Nat} (hsz : S.w.heap.size ≤ W'.heap.size) (ho : ∀ b, b < S.w.heap.size ∧ ¬ X b ∧ ¬ I.S0.im b → W'.heap[b]? = S.w.heap[b]?)
    (hi : ∀ b, I.S0.im b → W'.heap[b]? = S.w.heap[b]?) (hst : I.at_ s' (fun b => b < S.w.heap.size ∧ ¬ X b ∧ ¬ I.S0.im b) W') :
    ∃ S', S'.w = W' ∧ I.Now s' (fun b => X b ∨ (S.w.heap.size ≤ b ∧ b < W'.heap.size)) S' H ∧ Evi S S' := by
  obtain ⟨S', hd⟩ : ∃ S' : MS, S' = { S with w := W', keep := fun b => S.keep b ∨ (S.w.heap.size ≤ b ∧ b < W'.heap.size) } := ⟨_, rfl⟩
  have hX : ∀ b, X b → b < S.w.heap.size := fun b hb => h.rel.im b (.inr (h.keep b hb))
  have him : ∀ b, S.im b → b < S.w.heap.size := fun b hb => h.rel.im b (.inl hb)
  have hi0 : ∀ b, I.S0.im b → b < S.w.heap.size := fun b hb => him b (h.im b hb)
  have hw : ∀ b, S.im b → W'.heap[b]? = S.w.heap[b]? := fun b hb => by
    by_cases h0 : I.S0.im b
    · exact hi b h0
    · exact ho b ⟨him b hb, (h.apart b hb).resolve_left h0, h0⟩
  refine ⟨S', by rw [hd], ⟨?_, ?_, ?_, ?_, ?_, ?_⟩, ?_⟩
  · subst hd
    exact h.rel.turn2 hw rfl rfl rfl rfl rfl rfl (fun b hb => hb.imp id And.left) (fun b hb => hb.elim (fun hh => Nat.lt_of_lt_of_le (h.rel.im b (.inr hh)) hsz) And.right)
      (fun b hb hl => ho b ⟨hl, fun hx => hb (.inr (h.keep b hx)), fun hx => hb (.inl (h.im b hx))⟩) hsz
  · subst hd; exact Nat.le_trans h.base hsz
  · subst hd; exact fun b hb => hb.imp (h.keep b) id
  · subst hd; exact h.im
  · subst hd
    intro b hb
    rcases h.apart b hb with hh | hh
    · exact .inl hh
    · exact .inr fun hx => hx.elim hh fun hx => by have := him b hb; omega
  · subst hd
    have e : (fun b => b < W'.heap.size ∧ ¬ (X b ∨ (S.w.heap.size ≤ b ∧ b < W'.heap.size)) ∧ ¬ I.S0.im b) = fun b => b < S.w.heap.size ∧ ¬ X b ∧ ¬ I.S0.im b := by
      funext b
      refine propext ⟨fun ⟨h1, h2, h3⟩ => ⟨?_, fun hx => h2 (.inl hx), h3⟩, fun ⟨h1, h2, h3⟩ => ⟨by omega, fun hx => hx.elim h2 (fun hh => by omega), h3⟩⟩
      rcases Nat.lt_or_ge b S.w.heap.size with hl | hl
      · exact hl
      · exact absurd (.inr ⟨hl, h1⟩) h2
    show I.at_ s' _ W'
    rw [e]
    exact hst
  · subst hd
    exact Evi.of hw rfl rfl rfl rfl rfl rfl
end Itr
def AfterI (I : Itr) (n : Nat) (Q : Option Nat → Ex → Env → AHeap → Prop) (e : Exit) (a : Act) (w : World) : Prop :=
  ∃ S' env H' x s X, S'.w = w ∧ I.Now s X S' H' ∧ FRel S' n env a ∧ a.defers = [] ∧ e = Ex.up x ∧ Q s x env H'
def TI (I : Itr) (n : Nat) (c : AC) (s : Option Nat) (env : Env) (H : AHeap) (Q : Option Nat → Ex → Env → AHeap → Prop) : Prop :=
  ∀ code, compC I.P n code = some c → ∀ S a X, I.Now s X S H → FRel S n env a → a.defers = [] → code.wpIn (fen none) (I.m + 1) I.P (AfterI I n Q) a S.w
section
variable {I : Itr} {n : Nat} {s : Option Nat} {env : Env} {H : AHeap} {Q : Option Nat → Ex → Env → AHeap → Prop}
theorem TI_scope {F : Fence} {mm : Nat} {c : Code} {a : Act} {w : World} (h : c.wpIn F mm I.P (AfterI I n Q) a w) : (Code.scope c).wpIn F mm I.P (AfterI I n Q) a w := by
  refine wpIn_scope_straight (wpIn_mono h fun e a w hh => ?_)
  obtain ⟨S2, env, H', y, s, X, h1, h2, h3, h4, h5, h6⟩ := hh
  subst h5
  cases y <;> exact ⟨S2, env, H', _, s, X, h1, h2, h3, h4, rfl, h6⟩
theorem TI_of {c : AC} (h : ∀ code, compC I.P n code = some c → (∀ d, code ≠ .scope d) → ∀ S a X, I.Now s X S H → FRel S n env a → a.defers = [] → code.wpIn (fen none) (I.m + 1) I.P (AfterI I n Q) a S.w) : TI I n c s env H Q := by
  intro code
  induction code with
  | scope d ih => exact fun hc S a X hN hF hd => TI_scope (ih (by simpa [compC] using hc) S a X hN hF hd)
  | skip => exact fun hc => h _ hc (by simp)
  | region => exact fun hc => h _ hc (by simp)
  | seq => exact fun hc => h _ hc (by simp)
  | cond => exact fun hc => h _ hc (by simp)
  | block => exact fun hc => h _ hc (by simp)
  | loop => exact fun hc => h _ hc (by simp)
  | rangeFunc => exact fun hc => h _ hc (by simp)
  | exit => exact fun hc => h _ hc (by simp)
  | label => exact fun hc => h _ hc (by simp)
  | goto => exact fun hc => h _ hc (by simp)
  | ret => exact fun hc => h _ hc (by simp)
  | refuse => exact fun hc => h _ hc (by simp)
theorem TI_skip (h : Q s .normal env H) : TI I n .skip s env H Q := TI_of fun code hc hs S a X hN hF hd => by
  have hA : AfterI I n Q .normal a S.w := ⟨S, env, H, .normal, s, X, rfl, hN, hF, hd, rfl, h⟩
  cases code <;> simp only [compC, reduceCtorEq, Option.some.injEq] at hc
  case skip => exact wpIn_skip hA
  case label => exact wpIn_label hA
  case region => exact absurd hc compReg_ne
  case seq => split at hc <;> cases hc
  case cond => split at hc <;> cases hc
  case block => obtain ⟨_, _, h⟩ := Option.map_eq_some_iff.1 hc; cases h
  case loop => obtain ⟨_, _, h⟩ := Option.map_eq_some_iff.1 hc; cases h
  case rangeFunc => split at hc <;> cases hc
  case scope d => exact absurd rfl (hs d)
theorem TI_exit {id : Nat} (h : Q s (.exit id) env H) : TI I n (.exit id) s env H Q := TI_of fun code hc hs S a X hN hF hd => by
  cases code <;> simp only [compC, reduceCtorEq, Option.some.injEq] at hc
  case exit k => cases hc; exact wpIn_exit ⟨S, env, H, .exit id, s, X, rfl, hN, hF, hd, rfl, h⟩
  case region => exact absurd hc compReg_ne
  case seq => split at hc <;> cases hc
  case cond => split at hc <;> cases hc
  case block => obtain ⟨_, _, h⟩ := Option.map_eq_some_iff.1 hc; cases h
  case loop => obtain ⟨_, _, h⟩ := Option.map_eq_some_iff.1 hc; cases h
  case rangeFunc => split at hc <;> cases hc
  case scope d => exact absurd rfl (hs d)
theorem TI_ret (h : Q s .ret env H) : TI I n .ret s env H Q := TI_of fun code hc hs S a X hN hF hd => by
  cases code <;> simp only [compC, reduceCtorEq, Option.some.injEq] at hc
  case ret => exact wpIn_ret ⟨S, env, H, .ret, s, X, rfl, hN, hF, hd, rfl, h⟩
  case region => exact absurd hc compReg_ne
  case seq => split at hc <;> cases hc
  case cond => split at hc <;> cases hc
  case block => obtain ⟨_, _, h⟩ := Option.map_eq_some_iff.1 hc; cases h
  case loop => obtain ⟨_, _, h⟩ := Option.map_eq_some_iff.1 hc; cases h
  case rangeFunc => split at hc <;> cases hc
  case scope d => exact absurd rfl (hs d)
def Ex.thenI (K : Option Nat → Env → AHeap → Prop) (Q : Option Nat → Ex → Env → AHeap → Prop) : Option Nat → Ex → Env → AHeap → Prop
  | s, .normal, env, H => K s env H
  | s, x, env, H => Q s x env H
theorem TI_seq {x y : AC} (h : TI I n x s env H (Ex.thenI (fun s' env' H' => TI I n y s' env' H' Q) Q)) : TI I n (.seq x y) s env H Q := TI_of fun code hc hs S a X hN hF hd => by
  cases code <;> simp only [compC, reduceCtorEq, Option.some.injEq] at hc
  case seq c d =>
    split at hc
    · rename_i x' y' hx hy
      cases hc
      refine wpIn_seq (wpIn_mono (h c hx S a X hN hF hd) fun e a' w' hh => ?_)
      obtain ⟨S2, env2, H2, z, s2, X2, rfl, hN2, hF2, hd2, rfl, hq⟩ := hh
      cases z with
      | normal => exact hq d hy S2 a' X2 hN2 hF2 hd2
      | exit id => exact ⟨S2, env2, H2, .exit id, s2, X2, rfl, hN2, hF2, hd2, rfl, hq⟩
      | ret => exact ⟨S2, env2, H2, .ret, s2, X2, rfl, hN2, hF2, hd2, rfl, hq⟩
    · cases hc
  case region => exact absurd hc compReg_ne
  case cond => split at hc <;> cases hc
  case block => obtain ⟨_, _, h⟩ := Option.map_eq_some_iff.1 hc; cases h
  case loop => obtain ⟨_, _, h⟩ := Option.map_eq_some_iff.1 hc; cases h
  case rangeFunc => split at hc <;> cases hc
  case scope d => exact absurd rfl (hs d)
theorem TI_cond {c : AArg} {x y : AC} {q : Bool} (hc : c.eval env = .bool q) (ht : q = true → TI I n x s env H Q) (hf : q = false → TI I n y s env H Q) : TI I n (.cond c x y) s env H Q := TI_of fun code hcc hs S a X hN hF hd => by
  cases code <;> simp only [compC, reduceCtorEq, Option.some.injEq] at hcc
  case cond z p q' =>
    split at hcc
    · rename_i z' p2 q2 hz hp hq
      cases hcc
      have hv := arg_rel hF hz
      rw [hc] at hv
      exact wpIn_cond_split (t := q) hv (fun hbb => ht hbb p hp S a X hN hF hd) (fun hbb => hf hbb q' hq S a X hN hF hd)
    · cases hcc
  case region => exact absurd hcc compReg_ne
  case seq => split at hcc <;> cases hcc
  case block => obtain ⟨_, _, h⟩ := Option.map_eq_some_iff.1 hcc; cases h
  case loop => obtain ⟨_, _, h⟩ := Option.map_eq_some_iff.1 hcc; cases h
  case rangeFunc => split at hcc <;> cases hcc
  case scope d => exact absurd rfl (hs d)
def Ex.inBlockI (id : Nat) (Q : Option Nat → Ex → Env → AHeap → Prop) : Option Nat → Ex → Env → AHeap → Prop
  | s, .exit k, env, H => if k = id then Q s .normal env H else Q s (.exit k) env H
  | s, x, env, H => Q s x env H
theorem TI_block {id : Nat} {c : AC} (h : TI I n c s env H (Ex.inBlockI id Q)) : TI I n (.block id c) s env H Q := TI_of fun code hc hs S a X hN hF hd => by
  cases code <;> simp only [compC, reduceCtorEq, Option.some.injEq] at hc
  case block k d =>
    obtain ⟨x, hx, hh⟩ := Option.map_eq_some_iff.1 hc
    cases hh
    refine wpIn_block (wpIn_mono (h d hx S a X hN hF hd) fun e a' w' hh => ?_)
    obtain ⟨S2, env2, H2, z, s2, X2, h1, hN2, hF2, hd2, rfl, hq⟩ := hh
    cases z with
    | normal => exact ⟨S2, env2, H2, .normal, s2, X2, h1, hN2, hF2, hd2, rfl, hq⟩
    | exit j =>
      simp only [Ex.up, Exit.inBlock]
      simp only [Ex.inBlockI] at hq
      split
      · rename_i hj; rw [if_pos hj] at hq; exact ⟨S2, env2, H2, .normal, s2, X2, h1, hN2, hF2, hd2, rfl, hq⟩
      · rename_i hj; rw [if_neg hj] at hq; exact ⟨S2, env2, H2, .exit j, s2, X2, h1, hN2, hF2, hd2, rfl, hq⟩
    | ret => exact ⟨S2, env2, H2, .ret, s2, X2, h1, hN2, hF2, hd2, rfl, hq⟩
  case region => exact absurd hc compReg_ne
  case seq => split at hc <;> cases hc
  case cond => split at hc <;> cases hc
  case loop => obtain ⟨_, _, h⟩ := Option.map_eq_some_iff.1 hc; cases h
  case rangeFunc => split at hc <;> cases hc
  case scope d => exact absurd rfl (hs d)
theorem TI_loop {σ : Type} (Inv : σ → Option Nat → Env → AHeap → Prop) (μ : σ → Nat) {c : AC} (s0 : σ) (h0 : Inv s0 s env H)
    (round : ∀ t s env H, Inv t s env H → TI I n c s env H (Ex.thenI (fun s' env' H' => ∃ t', Inv t' s' env' H' ∧ μ t' < μ t) Q)) : TI I n (.loop c) s env H Q := TI_of fun code hc hs S a X hN hF hd => by
  cases code <;> simp only [compC, reduceCtorEq, Option.some.injEq] at hc
  case loop d =>
    obtain ⟨x, hx, hh⟩ := Option.map_eq_some_iff.1 hc
    cases hh
    refine wpIn_loop_ghost (fun k a w => ∃ S' t s env H X, S'.w = w ∧ I.Now s X S' H ∧ FRel S' n env a ∧ a.defers = [] ∧ Inv t s env H ∧ μ t = k) (μ s0) ⟨S, s0, s, env, H, X, rfl, hN, hF, hd, h0, rfl⟩ ?_
    rintro k a w ⟨S1, t, s1, env1, H1, X1, rfl, hN1, hF1, hd1, hI, rfl⟩
    refine wpIn_mono (round t s1 env1 H1 hI d hx S1 a X1 hN1 hF1 hd1) fun e a' w' hh => ?_
    obtain ⟨S2, env2, H2, z, s2, X2, rfl, hN2, hF2, hd2, rfl, hq⟩ := hh
    cases z with
    | normal =>
      obtain ⟨t', h1, h2⟩ := hq
      exact ⟨μ t', h2, S2, t', s2, env2, H2, X2, rfl, hN2, hF2, hd2, h1, rfl⟩
    | exit id => exact ⟨S2, env2, H2, .exit id, s2, X2, rfl, hN2, hF2, hd2, rfl, hq⟩
    | ret => exact ⟨S2, env2, H2, .ret, s2, X2, rfl, hN2, hF2, hd2, rfl, hq⟩
  case region => exact absurd hc compReg_ne
  case seq => split at hc <;> cases hc
  case cond => split at hc <;> cases hc
  case block => obtain ⟨_, _, h⟩ := Option.map_eq_some_iff.1 hc; cases h
  case rangeFunc => split at hc <;> cases hc
  case scope d => exact absurd rfl (hs d)
theorem TI_reg {ops : List AOp} (h : runK I.P ops env H fun env' H' => Q s .normal env' H') : TI I n (.reg ops) s env H Q := TI_of fun code hc hs S a X hN hF hd => by
  cases code <;> simp only [compC, reduceCtorEq, Option.some.injEq] at hc
  case region id l draw =>
    split at hc
    · rename_i r hr
      obtain ⟨hd', rfl⟩ := compReg_reg hc
      subst hd'
      refine wpIn_region ?_
      have := run_soundI (ops := l) (rd := none) (m := I.m + 1) (Q := AfterI I n Q) [] l.toList ops 0 (by simp) hr hN.rel hF h (fun S' H' env' a' e hS' hF' hdd hK => ⟨S', env', H', .normal, s, X, rfl, hN.on e hS', hF', hdd.trans hd, rfl, hK⟩)
      rw [List.range_eq_range']
      simpa using this
    · cases hc
  case seq => split at hc <;> cases hc
  case cond => split at hc <;> cases hc
  case block => obtain ⟨_, _, h⟩ := Option.map_eq_some_iff.1 hc; cases h
  case loop => obtain ⟨_, _, h⟩ := Option.map_eq_some_iff.1 hc; cases h
  case rangeFunc => split at hc <;> cases hc
  case scope d => exact absurd rfl (hs d)
theorem mapM_split {α β : Type} {f : α → Option β} : ∀ (p : List β) {l : List α} {y : β} {q : List β}, l.mapM f = some (p ++ y :: q) → ∃ l1 o l2, l = l1 ++ o :: l2 ∧ l1.mapM f = some p ∧ f o = some y ∧ l2.mapM f = some q
  | [], l, y, q, h => by
    cases l with
    | nil => simp at h
    | cons o l =>
      rw [List.mapM_cons] at h
      simp only [Option.bind_eq_bind, Option.bind_eq_some_iff, Option.pure_def, Option.some.injEq, List.nil_append, List.cons.injEq] at h
      obtain ⟨y', hy, r, hr, rfl, rfl⟩ := h
      exact ⟨[], o, l, rfl, rfl, hy, hr⟩
  | z :: p, l, y, q, h => by
    cases l with
    | nil => simp at h
    | cons o l =>
      rw [List.mapM_cons] at h
      simp only [Option.bind_eq_bind, Option.bind_eq_some_iff, Option.pure_def, Option.some.injEq, List.cons_append, List.cons.injEq] at h
      obtain ⟨z', hz, r, hr, rfl, rfl⟩ := h
      obtain ⟨l1, o', l2, rfl, h1, h2, h3⟩ := mapM_split p hr
      exact ⟨o :: l1, o', l2, rfl, by rw [List.mapM_cons, hz, h1]; rfl, h2, h3⟩
theorem compK_call {P : Program} {op : Op} (h : compK P op = some .call) : ∃ g args argTypes, op = .call { callee := .value g, args, argTypes } := by
  cases op
  case call c =>
    obtain ⟨callee, args, argTypes⟩ := c
    cases callee <;> simp only [compK, compBuiltin, reduceCtorEq] at h
    case value g => exact ⟨g, args, argTypes, rfl⟩
    case builtin b =>
      repeat' split at h
      all_goals first
        | (cases h; done)
        | (simp at h; done)
  all_goals simp only [compK, reduceCtorEq] at h
  all_goals repeat' split at h
  all_goals first
    | contradiction
    | (cases h; done)
    | (obtain ⟨⟨_, _⟩, _, h⟩ := Option.map_eq_some_iff.1 h; cases h; done)
    | (obtain ⟨_, _, h⟩ := Option.map_eq_some_iff.1 h; cases h; done)
    | (simp at h; done)
def Fixed (x : AV) : Prop := ∀ S v, VRel S x v → v = valOf x
theorem fixed_vals {S : MS} : ∀ {xs : List AV} {vs : List Value}, (∀ x ∈ xs, Fixed x) → VsRel S xs vs → vs = xs.map valOf
  | [], vs, _, h => h
  | x :: xs, vs, hf, ⟨v, r, hv, h1, h2⟩ => by
    rw [hv, hf x (by simp) S v h1, fixed_vals (fun y hy => hf y (by simp [hy])) h2]
    rfl
theorem TI_yield {pre post : List AOp} {y : AOp} {k : Nat} (hk : y.k = .call) (hg : y.guard = none)
    (h : runK I.P pre env H fun env1 H1 => ∃ row, y.vals env1 = .yld I.l :: row ∧ (∀ x ∈ row, Fixed x) ∧ I.rows[k]? = some row ∧
      runK I.P post (env1.put y.dst (.bool true)) H1 (fun env2 H2 => Q (some (k + 1)) .normal env2 H2) ∧ runK I.P post (env1.put y.dst (.bool false)) H1 (fun env2 H2 => Q none .normal env2 H2)) :
    TI I n (.reg (pre ++ y :: post)) (some k) env H Q := TI_of fun code hc hs S a X hN hF hd => by
  cases code <;> simp only [compC, reduceCtorEq, Option.some.injEq] at hc
  case region id l draw =>
    split at hc
    · rename_i r hr
      obtain ⟨hd', hrr⟩ := compReg_reg hc
      subst hrr
      subst hd'
      refine wpIn_region ?_
      obtain ⟨l1, o, l2, hl, h1, h2, h3⟩ := mapM_split pre hr
      have hsz : l.size = l1.length + (l2.length + 1) := by rw [← Array.length_toList, hl]; simp
      rw [List.range_eq_range', hsz, List.range'_append_1 |>.symm]
      have hat : ∀ j : Nat, l[j]? = (l1 ++ o :: l2)[j]? := fun j => by rw [← hl, Array.getElem?_toList]
      refine run_soundI (ops := l) (rd := none) (m := I.m + 1) (Q := AfterI I n Q) _ l1 pre 0 (fun j hj => by rw [Nat.zero_add, hat, List.getElem?_append_left hj]) h1 hN.rel hF h (fun S1 H1 env1 a1 e1 hS1 hF1 hd1 hK => ?_)
      obtain ⟨row, hv, hfx, hrow, ht, hff⟩ := hK
      have hN1 := hN.on e1 hS1
      have ho : l[l1.length]? = some o := by rw [hat]; simp
      rw [show List.range' (0 + l1.length) (l2.length + 1) = l1.length :: List.range' (l1.length + 1) l2.length from by rw [Nat.zero_add]; rfl]
      simp only [wpOpsIn, ho]
      obtain ⟨c1, c2, c3, c4, c5⟩ := compOp_spec h2
      have hw : Region.wanted o (yielded l a1.tmps) = true := by
        rcases c5 with ⟨g1, _⟩ | ⟨j, want, d, g1, g2, _⟩
        · simp [Region.wanted, g1]
        · rw [hg] at g2; cases g2
      rw [hw]
      simp only [if_true]
      have hargs := args_rel hF1 c2
      rw [show y.args.map (·.eval env1) = y.vals env1 from rfl, hv] at hargs
      rw [hk] at c1
      obtain ⟨g, args, argTypes, hop⟩ := compK_call c1
      obtain ⟨fn, tm, asg, bd, hy, hR⟩ := I.round k row _ _ hrow hN1.st
      have hrun : (o.semAt (fen none).round a1.eval).run I.P S1.w = .ok (.round I.l fn tm asg bd) S1.w := by
        rw [show (fen none).round = none from rfl, Oper.semAt_none]
        rw [hop] at hargs
        have hargs' : VsRel S1 (.yld I.l :: row) (a1.eval g :: args.toList.map a1.eval) := by simpa [Op.operands, Call.operands] using hargs
        obtain ⟨v, vs, hvv, hv1, hv2⟩ := hargs'
        cases hvv
        have hvs := fixed_vals hfx hv2
        have hv1' : a1.eval g = .func (.yield I.l) #[] #[] := hv1
        have e : args.map a1.eval = encI row := by apply Array.ext'; simp [hvs]
        have hex : execOp a1.eval o = (do let d ← Deferred.ofValue (a1.eval g) (args.map a1.eval); invoke d.target d.args : Sem Next) := by
          cases o
          simp only at hop
          subst hop
          rfl
        rw [hex, e, hv1']
        simp only [Deferred.ofValue, Sem.run_bind, Sem.run_pure, Result.andThen_ok, invoke]
        simpa using hy
      refine ⟨fun _ _ => trivial, ?_⟩
      rw [hrun, Oper.uponIn_round]
      refine ⟨fun h => (by cases h), ?_⟩
      refine RoundIn.mono (F := fen none) (n := I.m) hR fun e W' hh => ?_
      obtain ⟨hsz', ho', hcase⟩ := hh
      have hf0 := (I.fact k _ _ (.inl hN1.st)).1
      have hdef : a1.defers = [] := hd1.trans hd
      have hgo : ∀ (bv : Bool) (s' : Option Nat), I.at_ s' (fun b => b < S1.w.heap.size ∧ ¬ X b ∧ ¬ I.S0.im b) W' → (∀ b, I.S0.im b → W'.heap[b]? = I.S0.w.heap[b]?) →
          runK I.P post (env1.put y.dst (.bool bv)) H1 (fun env2 H2 => Q s' .normal env2 H2) → wpOpsIn (fen none) (I.m + 1) I.P l (AfterI I n Q) (List.range' (l1.length + 1) l2.length) (a1.put o.dst (.bool bv)) W' := fun bv s' hst him hrk => by
        obtain ⟨S2, hw2, hN2, ev2⟩ := hN1.round hsz' ho' (fun b hb => (him b hb).trans ((hf0 b hb).2).symm) hst
        have hF2 : FRel S2 n env1 a1 := ⟨hF1.size, by rw [hdef]; exact Marks.nil hN2.base, fun i hi => VRel.moni ev2 _ (hF1.val i hi)⟩
        have hF3 := hF2.put (dst := y.dst) (by rw [c3]; exact c4) (x := .bool bv) (v := .bool bv) rfl
        rw [c3] at hF3
        rw [c3] at hrk
        rw [← hw2]
        have := run_soundI (ops := l) (rd := none) (m := I.m + 1) (Q := AfterI I n Q) [] l2 post (l1.length + 1) (fun j hj => by rw [hat, List.getElem?_append_right (by omega), show l1.length + 1 + j - l1.length = j + 1 from by omega]; rfl) h3 hN2.rel hF3 hrk
          (fun S' H' env' a' e hS' hF' hdd hK => ⟨S', env', H', .normal, s', _, rfl, hN2.on e hS', hF', hdd.trans ((put_defers _ _ _).trans hdef), rfl, hK⟩)
        simpa using this
      rcases hcase with ⟨rfl, hj⟩ | ⟨rfl, hj⟩
      · exact hgo true (some (k + 1)) hj (fun b hb => ((I.fact _ _ _ (.inl hj)).1 b hb).2) ht
      · exact hgo false none ⟨_, hj⟩ (fun b hb => ((I.fact _ _ _ (.inr hj)).1 b hb).2) hff
    · cases hc
  case seq => split at hc <;> cases hc
  case cond => split at hc <;> cases hc
  case block => obtain ⟨_, _, h⟩ := Option.map_eq_some_iff.1 hc; cases h
  case loop => obtain ⟨_, _, h⟩ := Option.map_eq_some_iff.1 hc; cases h
  case rangeFunc => split at hc <;> cases hc
  case scope d => exact absurd rfl (hs d)
theorem iter_ok {P : Program} {gf : Nat} {caps : List AV} {rows : List (List AV)} {fn : AFn} (hf : compFn P gf (caps.length + 1) = some fn)
    (h : ∀ I : Itr, I.P = P → I.rows = rows → TI I fn.n fn.body (some 0) (entry (.yld I.l :: caps)) AHeap.nil (fun s x env H => Ret P fn.res (fun _ _ => True) x env H ∧ (s = some rows.length ∨ s = none))) : IterOK P gf caps rows := by
  refine ⟨enters_of hf, fun m l S0 lb J Jx hS0 hx0 cJ cx hj fact round => ?_⟩
  obtain ⟨F, c, hF, hb, hn, hc, hr, hnp, _⟩ := compFn_spec hf
  obtain ⟨S, hSd⟩ : ∃ S : MS, S = { S0 with base := S0.w.heap.size, keep := fun b => b < S0.w.heap.size ∧ ¬ S0.im b } := ⟨_, rfl⟩
  have ev0 : Evi S0 S := by subst hSd; exact Evi.of (fun _ _ => rfl) rfl rfl rfl rfl rfl rfl
  have hw0 : S.w = S0.w := by rw [hSd]
  have hS : SRel S AHeap.nil := by
    subst hSd
    exact ⟨hS0.n, fun g hg => absurd hg (Nat.not_lt_zero _), fun g _ hg => absurd hg (Nat.not_lt_zero _), fun b hb => hb.elim (fun h => hS0.im b (.inl h)) And.left⟩
  have hx : VsRel S caps lb := VsRel.moni ev0 _ hx0
  have hlen := hx.length
  let I : Itr := ⟨P, l, m, rows, S0, J, Jx, cJ, cx, fact, round⟩
  have hN : I.Now (some 0) (fun b => b < S0.w.heap.size ∧ ¬ S0.im b) S AHeap.nil := by
    refine ⟨hS, by rw [hSd]; exact Nat.le_refl _, fun b hb => by rw [hSd]; exact hb, fun b hb => by rw [hSd]; exact hb, fun b hb => .inl (by rw [hSd] at hb; exact hb), ?_⟩
    have e : (fun b => b < S.w.heap.size ∧ ¬ (b < S0.w.heap.size ∧ ¬ S0.im b) ∧ ¬ I.S0.im b) = fun _ => False := by
      funext b
      refine propext ⟨fun ⟨h1, h2, h3⟩ => h2 ⟨by rw [hw0] at h1; exact h1, h3⟩, False.elim⟩
    rw [e, hw0]
    exact hj
  refine callsIn_of_wp_marks (F := Fence.wide) (n := m + 1) hF hb trivial ?_
  have hfr : FRel S fn.n (entry (.yld l :: caps)) { tmps := (#[Value.func (.yield l) #[] #[]] ++ lb.toArray) ++ Array.replicate (F.ntmps - (#[Value.func (.yield l) #[] #[]] ++ lb.toArray).size) undef, defers := [] } := by
    have hx' : VsRel S (.yld l :: caps) (.func (.yield l) #[] #[] :: lb) := ⟨_, _, rfl, rfl, hx⟩
    refine ⟨by simp; omega, Marks.nil hN.base, fun i hi => ?_⟩
    by_cases hlt : i < (AV.yld l :: caps).length
    · obtain ⟨v, hv, hr⟩ := hx'.get (List.getElem?_eq_getElem hlt)
      have e1 : entry (.yld l :: caps) i = (AV.yld l :: caps)[i] := by simp [entry, List.getD, List.getElem?_eq_getElem hlt]
      have e2 : ((#[Value.func (.yield l) #[] #[]] ++ lb.toArray) ++ Array.replicate (F.ntmps - (#[Value.func (.yield l) #[] #[]] ++ lb.toArray).size) undef).getD i undef = v := by
        have hsz : i < (#[Value.func (.yield l) #[] #[]] ++ lb.toArray).size := by simp at hlt ⊢; omega
        rw [Array.getD_eq_getD_getElem?, Array.getElem?_append_left hsz]
        have : (#[Value.func (.yield l) #[] #[]] ++ lb.toArray)[i]? = (Value.func (.yield l) #[] #[] :: lb)[i]? := by simp
        rw [this, hv]; rfl
      rw [e1, e2]
      exact hr
    · have e1 : entry (.yld l :: caps) i = .any := by simp [entry, List.getD, List.getElem?_eq_none (Nat.le_of_not_lt hlt)]
      rw [e1]
      trivial
  rw [← hw0]
  refine wpIn_mono (h I rfl rfl c hc S _ _ hN hfr rfl) fun e a w' hh => ?_
  obtain ⟨S2, env2, H2, z, s2, X2, rfl, hN2, hF2, hd2, rfl, ⟨hq, hres⟩, hst⟩ := hh
  have fin : LeavesInM Fence.wide (m + 1) P F a.tmps (fun e W' => (∃ v, e = .returned v) ∧ ((∃ O, J rows.length O W') ∨ ∃ k O, Jx k O W')) a.defers .returning S2.w := by
    rw [hd2]
    refine leaves_marks [] S2.w List.nodup_nil (fun D hd => by cases hd) ?_
    obtain ⟨vs, ys, h1, h2, h3⟩ := results_ok hN2.rel hF2 hr hres
    refine ⟨if h : vs.toArray.size = 1 then vs.toArray[0] else .tuple vs.toArray, ?_, ⟨_, rfl⟩, ?_⟩
    · have e : results F a.tmps = (do let vs ← F.results.mapM (resSem a.tmps); pure (if h : vs.size = 1 then vs[0] else .tuple vs)) := by
        unfold results
        congr
      rw [e, Array.mapM_eq_mapM_toList]
      show Sem.run P _ S2.w = _
      simp only [Sem.run_bind, Sem.run_map, h1, Result.andThen_ok, Sem.run_pure]
      rfl
    · have := hN2.st
      rcases hst with rfl | rfl
      · exact .inl ⟨_, this⟩
      · obtain ⟨k, hk⟩ := this; exact .inr ⟨k, _, hk⟩
  cases z with
  | normal => exact fin
  | exit id => exact hq.elim
  | ret => exact fin
end
end Go.Proofs.Ytdjbcenfgceejaa.Abs
set_option linter.unusedSimpArgs false
set_option linter.unusedVariables false
namespace Go.Proofs.Ytdjbcenfgceejaa
open Abs
def domL (s : Int) : List Span := if s = 1 then [⟨0, 255⟩] else if s = 2 then [⟨0, 55295⟩, ⟨57344, 1114111⟩] else []
theorem part_Whole (a : Int) : PC Try.prog 39 [.int .i64 a] (partV ⟨a, 0, 21, 0⟩) := by
  refine pc_w' c_part_Whole ?_
  unfold B_part_Whole
  (repeat' (first | (simp (disch := omega) only [push_cast, ↓zz, seval]) | (with_reducible refine And.intro ?_ ?_) | (with_reducible refine condW_split ?_ ?_ <;> intro hc <;> (try simp only [push_cast] at hc)) | (with_reducible refine guardW_split ?_ ?_ <;> intro hc <;> (try simp only [push_cast] at hc)) | omega | (with_reducible intro _)))
def bitsB (p : Part) : Bool := decide (0 ≤ p.drop ∧ p.drop < 21 ∧ 1 ≤ p.take ∧ p.take ≤ 21 ∧ 0 ≤ p.up ∧ p.up < 21 ∧ (p.up = 0 ∨ p.take ≤ 6))
theorem part_bits (p : Part) : PC Try.prog 76 [partV p] (.bool (bitsB p)) := by
  refine pc_w' c_part_bits ?_
  unfold B_part_bits
  (repeat' (first | (simp (disch := omega) only [push_cast, ↓zz, seval]) | (with_reducible refine And.intro ?_ ?_) | (with_reducible refine condW_split ?_ ?_ <;> intro hc <;> (try simp only [push_cast] at hc)) | (with_reducible refine guardW_split ?_ ?_ <;> intro hc <;> (try simp only [push_cast] at hc)) | omega | (with_reducible intro _)))
  all_goals (unfold bitsB; first | (refine tt_dec ?_; omega) | (refine ff_dec ?_; omega) | (refine dec_dec ?_; omega))
theorem ref_Bits (p : Part) : PC Try.prog 77 [partV p] (.bool (bitsB p)) := by
  refine pc_w' c_ref03_Bits ?_
  unfold B_ref03_Bits
  (repeat' (first | (simp (disch := omega) only [push_cast, ↓zz, seval]) | (with_reducible refine And.intro ?_ ?_) | (with_reducible refine condW_split ?_ ?_ <;> intro hc <;> (try simp only [push_cast] at hc)) | (with_reducible refine guardW_split ?_ ?_ <;> intro hc <;> (try simp only [push_cast] at hc)) | omega | (with_reducible intro _)))
  all_goals (unfold bitsB; first | (refine tt_dec ?_; omega) | (refine ff_dec ?_; omega) | (refine dec_dec ?_; omega))
def rightB (p : Part) (n : Int) : Bool := decide (0 ≤ p.at_ ∧ p.at_ < n) && bitsB p
theorem part_Right (p : Part) (n : Int) : PC Try.prog 42 [partV p, .int .i64 n] (.bool (rightB p n)) := by
  refine pc_w' c_part_Right ?_
  unfold B_part_Right
  (repeat' (first | (simp (disch := omega) only [push_cast, ↓zz, seval]) | (with_reducible refine And.intro ?_ ?_) | (with_reducible refine condW_split ?_ ?_ <;> intro hc <;> (try simp only [push_cast] at hc)) | (with_reducible refine guardW_split ?_ ?_ <;> intro hc <;> (try simp only [push_cast] at hc)) | (have q_ := part_bits p; (with_reducible first | refine eK q_ ?_ | refine eQ q_ ?_ | refine eG q_ ?_); clear q_) | (have q_ := part_bits p; (with_reducible first | refine cK q_ ?_ | refine cQ q_ ?_ | refine cG q_ ?_); clear q_; (simp (disch := omega) only [push_cast, ↓zz, seval]); (fail_if_success (with_reducible change False))) | omega | (with_reducible intro _)))
  all_goals (simp [rightB, *] <;> omega)
theorem ref03_Right (p : Part) (n : Int) : PC Try.prog 45 [partV p, .int .i64 n] (.bool (rightB p n)) := by
  refine pc_w' c_ref03_Right ?_
  unfold B_ref03_Right
  (repeat' (first | (simp (disch := omega) only [push_cast, ↓zz, seval]) | (with_reducible refine And.intro ?_ ?_) | (with_reducible refine condW_split ?_ ?_ <;> intro hc <;> (try simp only [push_cast] at hc)) | (with_reducible refine guardW_split ?_ ?_ <;> intro hc <;> (try simp only [push_cast] at hc)) | (have q_ := ref_Bits p; (with_reducible first | refine eK q_ ?_ | refine eQ q_ ?_ | refine eG q_ ?_); clear q_) | (have q_ := ref_Bits p; (with_reducible first | refine cK q_ ?_ | refine cQ q_ ?_ | refine cG q_ ?_); clear q_; (simp (disch := omega) only [push_cast, ↓zz, seval]); (fail_if_success (with_reducible change False))) | omega | (with_reducible intro _)))
  all_goals (simp [rightB, *] <;> omega)
theorem pow_le (i : Nat) (h : i ≤ 40) : (1 : Int) ≤ 2 ^ i ∧ (2 : Int) ^ i ≤ 1099511627776 :=
  ⟨Int.pow_pos (by decide), by have := Nat.pow_le_pow_right (n := 2) (by decide) h; have e : ((2 ^ i : Nat) : Int) = 2 ^ i := by simp
                               rw [← e]; omega⟩
theorem ref_Two (n : Int) (h : 0 ≤ n ∧ n ≤ 40) : PC Try.prog 78 [.int .i64 n] (.int .i64 (2 ^ n.toNat)) := by
  refine pc_w' c_ref03_Two ?_
  unfold B_ref03_Two
  (repeat' (first | (simp (disch := omega) only [push_cast, ↓zz, seval]) | (with_reducible refine And.intro ?_ ?_) | (with_reducible refine condW_split ?_ ?_ <;> intro hc <;> (try simp only [push_cast] at hc)) | (with_reducible refine guardW_split ?_ ?_ <;> intro hc <;> (try simp only [push_cast] at hc)) | omega | (with_reducible intro _)))
  refine LoopK_T (T_loopR (fun (i : Nat) => (i : Int) ≤ n) (fun i => n.toNat - i) (fun i => [(0, .int .i64 n), (3, .int .i64 (2 ^ i)), (4, .int .i64 i)]) (fun _ => []) (fun _ _ => []) 0 (by omega) ?_ ?_)
  · (repeat' (first | (simp (disch := omega) only [push_cast, ↓zz, seval]) | (with_reducible refine And.intro ?_ ?_) | (with_reducible refine condW_split ?_ ?_ <;> intro hc <;> (try simp only [push_cast] at hc)) | (with_reducible refine guardW_split ?_ ?_ <;> intro hc <;> (try simp only [push_cast] at hc)) | omega | (with_reducible intro _)))
  intro i hi
  refine W_T ?_
  have hp := pow_le (i + 1)
  rw [Int.pow_succ] at hp
  (repeat' (first | (simp (disch := omega) only [push_cast, ↓zz, seval]) | (with_reducible refine And.intro ?_ ?_) | (with_reducible refine condW_split ?_ ?_ <;> intro hc <;> (try simp only [push_cast] at hc)) | (with_reducible refine guardW_split ?_ ?_ <;> intro hc <;> (try simp only [push_cast] at hc)) | omega | (with_reducible intro _)))
  · refine ⟨i + 1, ?_⟩
    have hp := hp (by omega)
    (repeat' (first | (simp (disch := omega) only [push_cast, ↓zz, seval, Int.pow_succ]) | (with_reducible refine And.intro ?_ ?_) | (with_reducible refine condW_split ?_ ?_ <;> intro hc <;> (try simp only [push_cast] at hc)) | (with_reducible refine guardW_split ?_ ?_ <;> intro hc <;> (try simp only [push_cast] at hc)) | omega | (with_reducible intro _)))
  · obtain rfl : n = i := by omega
    rfl
def valP (p : Part) (x : Int) : Int := x / 2 ^ p.drop.toNat % 2 ^ p.take.toNat * 2 ^ p.up.toNat
def valB (p : Part) (x : Int) : Bool := bitsB p && decide (0 ≤ x ∧ x ≤ 2097151)
def val1 (p : Part) (x : Int) : Int := if valB p x then valP p x else 0
abbrev valV (p : Part) (x : Int) : AV := .tup [.int .i64 (val1 p x), .bool (valB p x)]
theorem bits_iff {p : Part} : bitsB p = true ↔ (0 ≤ p.drop ∧ p.drop < 21 ∧ 1 ≤ p.take ∧ p.take ≤ 21 ∧ 0 ≤ p.up ∧ p.up < 21 ∧ (p.up = 0 ∨ p.take ≤ 6)) := by simp [bitsB]
theorem pow21 (d : Nat) (h : d ≤ 21) : (1 : Int) ≤ 2 ^ d ∧ (2 : Int) ^ d ≤ 2097152 :=
  ⟨Int.pow_pos (by decide), by have := Nat.pow_le_pow_right (n := 2) (by decide) h; have e : ((2 ^ d : Nat) : Int) = 2 ^ d := by simp
                               rw [← e]; omega⟩
theorem val_bits {p : Part} {x : Int} (hb : bitsB p = true) (hx : 0 ≤ x ∧ x ≤ 2097151) :
    IntKind.i64.wrap (bitsI .and .i64 (x.fdiv (2 ^ min p.drop.toNat IntKind.i64.bits)) (IntKind.i64.wrap (IntKind.i64.wrap (1 * 2 ^ min p.take.toNat IntKind.i64.bits) - 1)) * 2 ^ min p.up.toNat IntKind.i64.bits) = valP p x := by
  rw [bits_iff] at hb
  have e1 : min p.drop.toNat IntKind.i64.bits = p.drop.toNat := Nat.min_eq_left (by show _ ≤ 64; omega)
  have e2 : min p.take.toNat IntKind.i64.bits = p.take.toNat := Nat.min_eq_left (by show _ ≤ 64; omega)
  have e3 : min p.up.toNat IntKind.i64.bits = p.up.toNat := Nat.min_eq_left (by show _ ≤ 64; omega)
  rw [e1, e2, e3]
  have hd := pow21 p.drop.toNat (by omega)
  have ht := pow21 p.take.toNat (by omega)
  have hu := pow21 p.up.toNat (by omega)
  rw [Int.one_mul, IntWalk.i64_in (2 ^ p.take.toNat) (by omega), IntWalk.i64_in (2 ^ p.take.toNat - 1) (by omega), fdiv_of _ _ (by omega)]
  have q0 : 0 ≤ x / 2 ^ p.drop.toNat := Int.ediv_nonneg hx.1 (by omega)
  have q1 : x / 2 ^ p.drop.toNat ≤ x := Int.ediv_le_self _ hx.1
  have m0 := Int.emod_nonneg (x / 2 ^ p.drop.toNat) (b := 2 ^ p.take.toNat) (by omega)
  have m1 := Int.emod_lt_of_pos (x / 2 ^ p.drop.toNat) (b := 2 ^ p.take.toNat) (by omega)
  rw [and_low p.take.toNat ⟨q0, by show _ < (2 : Int) ^ 64; omega⟩ (by show _ ≤ 64; omega) (IntWalk.i64_in _ (by omega))]
  refine IntWalk.i64_in _ ?_
  have : x / 2 ^ p.drop.toNat % 2 ^ p.take.toNat * 2 ^ p.up.toNat ≤ 2097152 * 2097152 := Int.mul_le_mul (by omega) (by omega) (by omega) (by omega)
  have : 0 ≤ x / 2 ^ p.drop.toNat % 2 ^ p.take.toNat * 2 ^ p.up.toNat := Int.mul_nonneg (by omega) (by omega)
  omega
theorem val_yes {p : Part} {x : Int} (hb : bitsB p = true) (hx : 0 ≤ x ∧ x ≤ 2097151) : valB p x = true ∧ val1 p x = valP p x := by
  have : valB p x = true := by simp only [valB, hb, Bool.true_and, decide_eq_true_eq]; exact hx
  exact ⟨this, by rw [val1, this]; rfl⟩
theorem val_no {p : Part} {x : Int} (h : bitsB p = false ∨ x < 0 ∨ 2097151 < x) : valB p x = false ∧ val1 p x = 0 := by
  have : valB p x = false := by
    simp only [valB, Bool.and_eq_false_iff, decide_eq_false_iff_not]
    rcases h with h | h
    · exact .inl h
    · exact .inr (by omega)
  exact ⟨this, by rw [val1, this]; rfl⟩
theorem val_quo {p : Part} {x : Int} (hb : bitsB p = true) (hx : 0 ≤ x ∧ x ≤ 2097151) : IntKind.i64.wrap ((IntKind.i64.wrap (x.tdiv (2 ^ p.drop.toNat))).tmod (2 ^ p.take.toNat) * 2 ^ p.up.toNat) = valP p x := by
  rw [bits_iff] at hb
  have hd := pow21 p.drop.toNat (by omega)
  have ht := pow21 p.take.toNat (by omega)
  have hu := pow21 p.up.toNat (by omega)
  have q0 : 0 ≤ x / 2 ^ p.drop.toNat := Int.ediv_nonneg hx.1 (by omega)
  have q1 : x / 2 ^ p.drop.toNat ≤ x := Int.ediv_le_self _ hx.1
  have m0 := Int.emod_nonneg (x / 2 ^ p.drop.toNat) (b := 2 ^ p.take.toNat) (by omega)
  have m1 := Int.emod_lt_of_pos (x / 2 ^ p.drop.toNat) (b := 2 ^ p.take.toNat) (by omega)
  rw [IntWalk.i64_quo _ _ (by omega), IntWalk.rem_in _ _ q0]
  refine IntWalk.i64_in _ ?_
  have : x / 2 ^ p.drop.toNat % 2 ^ p.take.toNat * 2 ^ p.up.toNat ≤ 2097152 * 2097152 := Int.mul_le_mul (by omega) (by omega) (by omega) (by omega)
  have : 0 ≤ x / 2 ^ p.drop.toNat % 2 ^ p.take.toNat * 2 ^ p.up.toNat := Int.mul_nonneg (by omega) (by omega)
  omega
theorem val_eqn {p : Part} {x : Int} (h : bitsB p = false ∨ x < 0 ∨ 2097151 < x) : valV p x = .tup [.int .i64 0, .bool false] := by
  obtain ⟨h1, h2⟩ := val_no h
  simp only [valV, h1, h2]
theorem val_eqy {p : Part} {x : Int} (hb : bitsB p = true) (hx : 0 ≤ x ∧ x ≤ 2097151) : valV p x = .tup [.int .i64 (valP p x), .bool true] := by
  obtain ⟨h1, h2⟩ := val_yes hb hx
  simp only [valV, h1, h2]
theorem part_Value (p : Part) (x : Int) : PC Try.prog 48 [partV p, .int .i64 x] (valV p x) := by
  refine pc_w' c_part_Value ?_
  unfold B_part_Value
  (repeat' (first | (simp (disch := omega) only [push_cast, ↓zz, seval]) | (with_reducible refine And.intro ?_ ?_) | (with_reducible refine condW_split ?_ ?_ <;> intro hc <;> (try simp only [push_cast] at hc)) | (with_reducible refine guardW_split ?_ ?_ <;> intro hc <;> (try simp only [push_cast] at hc)) | (have q_ := part_bits p; (with_reducible first | refine eK q_ ?_ | refine eQ q_ ?_ | refine eG q_ ?_); clear q_) | (have q_ := part_bits p; (with_reducible first | refine cK q_ ?_ | refine cQ q_ ?_ | refine cG q_ ?_); clear q_; (simp (disch := omega) only [push_cast, ↓zz, seval]); (fail_if_success (with_reducible change False))) | omega | (with_reducible intro _)))
  all_goals first | (have hb := bits_iff.1 ‹bitsB p = true›; omega) | (rw [val_eqn (.inl ‹_›)]; (repeat' (first | (simp (disch := omega) only [push_cast, ↓zz, seval, an_tup]) | omega | (with_reducible refine And.intro ?_ ?_))); done) | (rw [val_eqn (.inr (by omega))]; (repeat' (first | (simp (disch := omega) only [push_cast, ↓zz, seval, an_tup]) | omega | (with_reducible refine And.intro ?_ ?_))); done) | (rw [val_eqy ‹_› (by omega)]; (repeat' (first | (simp (disch := omega) only [push_cast, ↓zz, seval, an_tup]) | omega | (with_reducible refine And.intro ?_ ?_))); exact val_bits ‹_› (by omega))
theorem ref03_Value (p : Part) (x : Int) : PC Try.prog 50 [partV p, .int .i64 x] (valV p x) := by
  refine pc_w' c_ref03_Value ?_
  unfold B_ref03_Value
  (repeat' (first | (simp (disch := omega) only [push_cast, ↓zz, seval]) | (with_reducible refine And.intro ?_ ?_) | (with_reducible refine condW_split ?_ ?_ <;> intro hc <;> (try simp only [push_cast] at hc)) | (with_reducible refine guardW_split ?_ ?_ <;> intro hc <;> (try simp only [push_cast] at hc)) | (have q_ := ref_Bits p; (with_reducible first | refine eK q_ ?_ | refine eQ q_ ?_ | refine eG q_ ?_); clear q_) | (have q_ := ref_Two p.drop (by have hb := bits_iff.1 ‹bitsB p = true›; omega); (with_reducible first | refine eK q_ ?_ | refine eQ q_ ?_ | refine eG q_ ?_); clear q_) | (have q_ := ref_Two p.take (by have hb := bits_iff.1 ‹bitsB p = true›; omega); (with_reducible first | refine eK q_ ?_ | refine eQ q_ ?_ | refine eG q_ ?_); clear q_) | (have q_ := ref_Two p.up (by have hb := bits_iff.1 ‹bitsB p = true›; omega); (with_reducible first | refine eK q_ ?_ | refine eQ q_ ?_ | refine eG q_ ?_); clear q_) | (have q_ := ref_Bits p; (with_reducible first | refine cK q_ ?_ | refine cQ q_ ?_ | refine cG q_ ?_); clear q_; (simp (disch := omega) only [push_cast, ↓zz, seval]); (fail_if_success (with_reducible change False))) | (have q_ := ref_Two p.drop (by have hb := bits_iff.1 ‹bitsB p = true›; omega); (with_reducible first | refine cK q_ ?_ | refine cQ q_ ?_ | refine cG q_ ?_); clear q_; (simp (disch := omega) only [push_cast, ↓zz, seval]); (fail_if_success (with_reducible change False))) | (have q_ := ref_Two p.take (by have hb := bits_iff.1 ‹bitsB p = true›; omega); (with_reducible first | refine cK q_ ?_ | refine cQ q_ ?_ | refine cG q_ ?_); clear q_; (simp (disch := omega) only [push_cast, ↓zz, seval]); (fail_if_success (with_reducible change False))) | (have q_ := ref_Two p.up (by have hb := bits_iff.1 ‹bitsB p = true›; omega); (with_reducible first | refine cK q_ ?_ | refine cQ q_ ?_ | refine cG q_ ?_); clear q_; (simp (disch := omega) only [push_cast, ↓zz, seval]); (fail_if_success (with_reducible change False))) | omega | (with_reducible intro _)))
  all_goals first | (rw [val_eqn (.inl ‹_›)]; (repeat' (first | (simp (disch := omega) only [push_cast, ↓zz, seval, an_tup]) | omega | (with_reducible refine And.intro ?_ ?_))); done) | (rw [val_eqn (.inr (by omega))]; (repeat' (first | (simp (disch := omega) only [push_cast, ↓zz, seval, an_tup]) | omega | (with_reducible refine And.intro ?_ ?_))); done) | (have hp := pow21 p.drop.toNat (by have hb := bits_iff.1 ‹bitsB p = true›; omega); omega) | (have hp := pow21 p.take.toNat (by have hb := bits_iff.1 ‹bitsB p = true›; omega); omega) | (rw [val_eqy ‹_› (by omega)]; (repeat' (first | (simp (disch := omega) only [push_cast, ↓zz, seval, an_tup]) | omega | (with_reducible refine And.intro ?_ ?_))); exact val_quo ‹_› (by omega))
theorem word_Domain (s : Int) : PC Try.prog 40 [.int .i64 s] (spansV (domL s)) := by
  refine pc_w' c_word_Domain ?_
  unfold B_word_Domain
  (repeat' (first | (simp (disch := omega) only [push_cast, ↓zz, seval]) | (with_reducible refine And.intro ?_ ?_) | (with_reducible refine condW_split ?_ ?_ <;> intro hc <;> (try simp only [push_cast] at hc)) | (with_reducible refine guardW_split ?_ ?_ <;> intro hc <;> (try simp only [push_cast] at hc)) | omega | (with_reducible intro _)))
  all_goals (simp only [domL, *]; rfl)
end Go.Proofs.Ytdjbcenfgceejaa
set_option linter.unusedSimpArgs false
set_option linter.unusedVariables false
namespace Go.Proofs.Ytdjbcenfgceejaa
open Abs
abbrev Term.outer (t : Term) : Part := ⟨0, t.drop, t.take, t.up⟩
theorem term_outer (t : Term) : PC Try.prog 49 [termV t] (partV t.outer) := by
  refine pc_w' c_term_outer ?_
  unfold B_term_outer
  (repeat' (first | (simp (disch := omega) only [push_cast, ↓zz, seval]) | (with_reducible refine And.intro ?_ ?_) | (with_reducible refine condW_split ?_ ?_ <;> intro hc <;> (try simp only [push_cast] at hc)) | (with_reducible refine guardW_split ?_ ?_ <;> intro hc <;> (try simp only [push_cast] at hc)) | omega | (with_reducible intro _)))
theorem ref_Outer (t : Term) : PC Try.prog 51 [termV t] (partV t.outer) := by
  refine pc_w' c_ref04_Outer ?_
  unfold B_ref04_Outer
  (repeat' (first | (simp (disch := omega) only [push_cast, ↓zz, seval]) | (with_reducible refine And.intro ?_ ?_) | (with_reducible refine condW_split ?_ ?_ <;> intro hc <;> (try simp only [push_cast] at hc)) | (with_reducible refine guardW_split ?_ ?_ <;> intro hc <;> (try simp only [push_cast] at hc)) | omega | (with_reducible intro _)))
def plainB (t : Term) : Bool := decide (t.base = 0 ∧ t.drop = 0 ∧ t.take = 21 ∧ t.up = 0)
def wholeB (p : Part) : Bool := decide (p.drop = 0 ∧ p.take = 21 ∧ p.up = 0)
theorem ref_all (p : Part) : PC Try.prog 46 [partV p] (.bool (wholeB p)) := by
  refine pc_w' c_ref04_all ?_
  unfold B_ref04_all
  (repeat' (first | (simp (disch := omega) only [push_cast, ↓zz, seval]) | (with_reducible refine And.intro ?_ ?_) | (with_reducible refine condW_split ?_ ?_ <;> intro hc <;> (try simp only [push_cast] at hc)) | (with_reducible refine guardW_split ?_ ?_ <;> intro hc <;> (try simp only [push_cast] at hc)) | omega | (with_reducible intro _)))
  all_goals (unfold wholeB; first | (refine tt_dec ?_; omega) | (refine ff_dec ?_; omega) | (refine dec_dec ?_; omega))
theorem ref_Plain (t : Term) : PC Try.prog 47 [termV t] (.bool (plainB t)) := by
  refine pc_w' c_ref04_Plain ?_
  unfold B_ref04_Plain
  (repeat' (first | (simp (disch := omega) only [push_cast, ↓zz, seval]) | (with_reducible refine And.intro ?_ ?_) | (with_reducible refine condW_split ?_ ?_ <;> intro hc <;> (try simp only [push_cast] at hc)) | (with_reducible refine guardW_split ?_ ?_ <;> intro hc <;> (try simp only [push_cast] at hc)) | (have q_ := ref_Outer t; (with_reducible first | refine eK q_ ?_ | refine eQ q_ ?_ | refine eG q_ ?_); clear q_) | (have q_ := ref_all t.outer; (with_reducible first | refine eK q_ ?_ | refine eQ q_ ?_ | refine eG q_ ?_); clear q_) | (have q_ := ref_Outer t; (with_reducible first | refine cK q_ ?_ | refine cQ q_ ?_ | refine cG q_ ?_); clear q_; (simp (disch := omega) only [push_cast, ↓zz, seval]); (fail_if_success (with_reducible change False))) | (have q_ := ref_all t.outer; (with_reducible first | refine cK q_ ?_ | refine cQ q_ ?_ | refine cG q_ ?_); clear q_; (simp (disch := omega) only [push_cast, ↓zz, seval]); (fail_if_success (with_reducible change False))) | omega | (with_reducible intro _)))
  all_goals (simp [plainB, wholeB, Term.outer, *])
theorem term_plain (t : Term) : PC Try.prog 43 [termV t] (.bool (plainB t)) := by
  refine pc_w' c_term_plain ?_
  unfold B_term_plain
  (repeat' (first | (simp (disch := omega) only [push_cast, ↓zz, seval]) | (with_reducible refine And.intro ?_ ?_) | (with_reducible refine condW_split ?_ ?_ <;> intro hc <;> (try simp only [push_cast] at hc)) | (with_reducible refine guardW_split ?_ ?_ <;> intro hc <;> (try simp only [push_cast] at hc)) | (have q_ := term_outer t; (with_reducible first | refine eK q_ ?_ | refine eQ q_ ?_ | refine eG q_ ?_); clear q_) | (have q_ := part_Whole 0; (with_reducible first | refine eK q_ ?_ | refine eQ q_ ?_ | refine eG q_ ?_); clear q_) | (have q_ := term_outer t; (with_reducible first | refine cK q_ ?_ | refine cQ q_ ?_ | refine cG q_ ?_); clear q_; (simp (disch := omega) only [push_cast, ↓zz, seval]); (fail_if_success (with_reducible change False))) | (have q_ := part_Whole 0; (with_reducible first | refine cK q_ ?_ | refine cQ q_ ?_ | refine cG q_ ?_); clear q_; (simp (disch := omega) only [push_cast, ↓zz, seval]); (fail_if_success (with_reducible change False))) | omega | (with_reducible intro _)))
  all_goals (simp [plainB, wholeB, Term.outer, *])
def smallB (x : Int) : Bool := decide (-1114111 ≤ x ∧ x ≤ 1114111)
theorem term_small (x : Int) : PC Try.prog 52 [.int .i64 x] (.bool (smallB x)) := by
  refine pc_w' c_term_small ?_
  unfold B_term_small
  (repeat' (first | (simp (disch := omega) only [push_cast, ↓zz, seval]) | (with_reducible refine And.intro ?_ ?_) | (with_reducible refine condW_split ?_ ?_ <;> intro hc <;> (try simp only [push_cast] at hc)) | (with_reducible refine guardW_split ?_ ?_ <;> intro hc <;> (try simp only [push_cast] at hc)) | omega | (with_reducible intro _)))
  all_goals (unfold smallB; first | (refine tt_dec ?_; omega) | (refine ff_dec ?_; omega) | (refine dec_dec ?_; omega))
theorem ref_small (x : Int) : PC Try.prog 54 [.int .i64 x] (.bool (smallB x)) := by
  refine pc_w' c_ref04_small ?_
  unfold B_ref04_small
  (repeat' (first | (simp (disch := omega) only [push_cast, ↓zz, seval]) | (with_reducible refine And.intro ?_ ?_) | (with_reducible refine condW_split ?_ ?_ <;> intro hc <;> (try simp only [push_cast] at hc)) | (with_reducible refine guardW_split ?_ ?_ <;> intro hc <;> (try simp only [push_cast] at hc)) | omega | (with_reducible intro _)))
  all_goals (unfold smallB; first | (refine tt_dec ?_; omega) | (refine ff_dec ?_; omega) | (refine dec_dec ?_; omega))
def risesB : List Part → Bool
  | p :: q :: l => decide (p.up < q.up) && risesB (q :: l)
  | _ => true
theorem rises_at : ∀ {l : List Part} {i : Nat}, i + 1 < l.length → risesB (l.drop i) = (decide ((nth l i).up < (nth l (i + 1)).up) && risesB (l.drop (i + 1)))
  | [], i, h => by simp at h
  | [p], i, h => by simp at h
  | p :: q :: l, 0, _ => rfl
  | p :: q :: l, i + 1, h => by
    exact rises_at (l := q :: l) (i := i) (by simpa using h)
theorem rises_end {l : List Part} {i : Nat} (h : l.length ≤ i + 1) : risesB (l.drop i) = true := by
  match hl : l.drop i with
  | [] => rfl
  | [p] => rfl
  | p :: q :: r => have := congrArg List.length hl; simp at this; omega
theorem term_rising (l : List Part) (hl : l.length < 1000000000000) : PC Try.prog 75 [partsV l] (.bool (risesB l && decide (l.length ≤ 4))) := by
  refine pc_w' c_term_rising ?_
  unfold B_term_rising
  (repeat' (first | (simp (disch := omega) only [push_cast, ↓zz, seval]) | (with_reducible refine And.intro ?_ ?_) | (with_reducible refine condW_split ?_ ?_ <;> intro hc <;> (try simp only [push_cast] at hc)) | (with_reducible refine guardW_split ?_ ?_ <;> intro hc <;> (try simp only [push_cast] at hc)) | omega | (with_reducible intro _)))
  refine LoopK_T (T_loopR (fun (i : Nat) => i ≤ l.length ∧ risesB l = risesB (l.drop (i - 1))) (fun i => l.length - i) (fun i => [(0, partsV l), (5, partsV l), (6, .int .i64 l.length), (7, .int .i64 i)]) (fun _ => []) (fun _ _ => []) 0 (by simp) ?_ ?_)
  · (repeat' (first | (simp (disch := omega) only [push_cast, ↓zz, seval]) | (with_reducible refine And.intro ?_ ?_) | (with_reducible refine condW_split ?_ ?_ <;> intro hc <;> (try simp only [push_cast] at hc)) | (with_reducible refine guardW_split ?_ ?_ <;> intro hc <;> (try simp only [push_cast] at hc)) | omega | (with_reducible intro _)))
  rintro i ⟨hi, hr⟩
  refine W_T ?_
  (repeat' (first | (simp (disch := omega) only [push_cast, ↓zz, seval]) | (with_reducible refine And.intro ?_ ?_) | (with_reducible refine condW_split ?_ ?_ <;> intro hc <;> (try simp only [push_cast] at hc)) | (with_reducible refine guardW_split ?_ ?_ <;> intro hc <;> (try simp only [push_cast] at hc)) | omega | (with_reducible intro _)))
  · rename_i h1 h2
    rw [hr, rises_at (i := i - 1) (by omega), show i - 1 + 1 = i by omega]
    have : ¬ (nth l (i - 1)).up < (nth l i).up := by omega
    simp [this]
  · refine ⟨i + 1, ?_⟩
    (repeat' (first | (simp (disch := omega) only [push_cast, ↓zz, seval]) | (with_reducible refine And.intro ?_ ?_) | (with_reducible refine condW_split ?_ ?_ <;> intro hc <;> (try simp only [push_cast] at hc)) | (with_reducible refine guardW_split ?_ ?_ <;> intro hc <;> (try simp only [push_cast] at hc)) | omega | (with_reducible intro _)))
    rw [hr, rises_at (i := i - 1) (by omega), show i - 1 + 1 = i by omega]
    have : (nth l (i - 1)).up < (nth l i).up := by omega
    simp [this]
  · refine ⟨i + 1, ?_⟩
    (repeat' (first | (simp (disch := omega) only [push_cast, ↓zz, seval]) | (with_reducible refine And.intro ?_ ?_) | (with_reducible refine condW_split ?_ ?_ <;> intro hc <;> (try simp only [push_cast] at hc)) | (with_reducible refine guardW_split ?_ ?_ <;> intro hc <;> (try simp only [push_cast] at hc)) | omega | (with_reducible intro _)))
    obtain rfl : i = 0 := by omega
    exact hr
  · rw [hr, rises_end (i := i - 1) (by omega), Bool.true_and]
    exact dec_dec (by omega)
def numbersB (t : Term) : Bool := smallB t.base && smallB t.sum && bitsB t.outer && (risesB t.parts && decide (t.parts.length ≤ 4))
theorem outer_right (t : Term) : rightB t.outer 1 = bitsB t.outer := by simp [rightB]
theorem part_Right1 (t : Term) : PC Try.prog 42 [partV t.outer, .int .i64 1] (.bool (bitsB t.outer)) := by rw [← outer_right]; exact part_Right t.outer 1
theorem term_numbers (t : Term) (hl : t.parts.length < 1000000000000) : PC Try.prog 41 [termV t] (.bool (numbersB t)) := by
  refine pc_w' c_term_numbers ?_
  unfold B_term_numbers
  (repeat' (first | (simp (disch := omega) only [push_cast, ↓zz, seval]) | (with_reducible refine And.intro ?_ ?_) | (with_reducible refine condW_split ?_ ?_ <;> intro hc <;> (try simp only [push_cast] at hc)) | (with_reducible refine guardW_split ?_ ?_ <;> intro hc <;> (try simp only [push_cast] at hc)) | (have q_ := term_small t.base; (with_reducible first | refine eK q_ ?_ | refine eQ q_ ?_ | refine eG q_ ?_); clear q_) | (have q_ := term_small t.sum; (with_reducible first | refine eK q_ ?_ | refine eQ q_ ?_ | refine eG q_ ?_); clear q_) | (have q_ := term_outer t; (with_reducible first | refine eK q_ ?_ | refine eQ q_ ?_ | refine eG q_ ?_); clear q_) | (have q_ := part_Right1 t; (with_reducible first | refine eK q_ ?_ | refine eQ q_ ?_ | refine eG q_ ?_); clear q_) | (have q_ := term_rising t.parts hl; (with_reducible first | refine eK q_ ?_ | refine eQ q_ ?_ | refine eG q_ ?_); clear q_) | (have q_ := term_small t.base; (with_reducible first | refine cK q_ ?_ | refine cQ q_ ?_ | refine cG q_ ?_); clear q_; (simp (disch := omega) only [push_cast, ↓zz, seval]); (fail_if_success (with_reducible change False))) | (have q_ := term_small t.sum; (with_reducible first | refine cK q_ ?_ | refine cQ q_ ?_ | refine cG q_ ?_); clear q_; (simp (disch := omega) only [push_cast, ↓zz, seval]); (fail_if_success (with_reducible change False))) | (have q_ := term_outer t; (with_reducible first | refine cK q_ ?_ | refine cQ q_ ?_ | refine cG q_ ?_); clear q_; (simp (disch := omega) only [push_cast, ↓zz, seval]); (fail_if_success (with_reducible change False))) | (have q_ := part_Right1 t; (with_reducible first | refine cK q_ ?_ | refine cQ q_ ?_ | refine cG q_ ?_); clear q_; (simp (disch := omega) only [push_cast, ↓zz, seval]); (fail_if_success (with_reducible change False))) | (have q_ := term_rising t.parts hl; (with_reducible first | refine cK q_ ?_ | refine cQ q_ ?_ | refine cG q_ ?_); clear q_; (simp (disch := omega) only [push_cast, ↓zz, seval]); (fail_if_success (with_reducible change False))) | omega | (with_reducible intro _)))
  all_goals (simp [numbersB, *])
theorem ref_Numbers (t : Term) (hl : t.parts.length < 1000000000000) : PC Try.prog 44 [termV t] (.bool (numbersB t)) := by
  refine pc_w' c_ref04_Numbers ?_
  unfold B_ref04_Numbers
  (repeat' (first | (simp (disch := omega) only [push_cast, ↓zz, seval]) | (with_reducible refine And.intro ?_ ?_) | (with_reducible refine condW_split ?_ ?_ <;> intro hc <;> (try simp only [push_cast] at hc)) | (with_reducible refine guardW_split ?_ ?_ <;> intro hc <;> (try simp only [push_cast] at hc)) | (have q_ := ref_small t.base; (with_reducible first | refine eK q_ ?_ | refine eQ q_ ?_ | refine eG q_ ?_); clear q_) | (have q_ := ref_small t.sum; (with_reducible first | refine eK q_ ?_ | refine eQ q_ ?_ | refine eG q_ ?_); clear q_) | (have q_ := ref_Outer t; (with_reducible first | refine eK q_ ?_ | refine eQ q_ ?_ | refine eG q_ ?_); clear q_) | (have q_ := ref_Bits t.outer; (with_reducible first | refine eK q_ ?_ | refine eQ q_ ?_ | refine eG q_ ?_); clear q_) | (have q_ := ref_small t.base; (with_reducible first | refine cK q_ ?_ | refine cQ q_ ?_ | refine cG q_ ?_); clear q_; (simp (disch := omega) only [push_cast, ↓zz, seval]); (fail_if_success (with_reducible change False))) | (have q_ := ref_small t.sum; (with_reducible first | refine cK q_ ?_ | refine cQ q_ ?_ | refine cG q_ ?_); clear q_; (simp (disch := omega) only [push_cast, ↓zz, seval]); (fail_if_success (with_reducible change False))) | (have q_ := ref_Outer t; (with_reducible first | refine cK q_ ?_ | refine cQ q_ ?_ | refine cG q_ ?_); clear q_; (simp (disch := omega) only [push_cast, ↓zz, seval]); (fail_if_success (with_reducible change False))) | (have q_ := ref_Bits t.outer; (with_reducible first | refine cK q_ ?_ | refine cQ q_ ?_ | refine cG q_ ?_); clear q_; (simp (disch := omega) only [push_cast, ↓zz, seval]); (fail_if_success (with_reducible change False))) | omega | (with_reducible intro _)))
  · have : ¬ t.parts.length ≤ 4 := by omega
    simp [numbersB, this]
  · have hn : numbersB t = risesB t.parts := by
      have : t.parts.length ≤ 4 := by omega
      simp [numbersB, *]
    rw [hn]
    refine LoopK_T (T_loopR (fun (i : Nat) => i ≤ t.parts.length ∧ risesB t.parts = risesB (t.parts.drop i)) (fun i => t.parts.length - i) (fun i => [(1, .ptr 0 1 0 0), (3, .int .i64 (i + 1))]) (fun _ => [⟨6, 1, true, [termV t]⟩]) (fun env _ => [srcOf 0 (env 1)]) 0 (by simp) ?_ ?_)
    · (repeat' (first | (simp (disch := omega) only [push_cast, ↓zz, seval]) | (with_reducible refine And.intro ?_ ?_) | (with_reducible refine condW_split ?_ ?_ <;> intro hc <;> (try simp only [push_cast] at hc)) | (with_reducible refine guardW_split ?_ ?_ <;> intro hc <;> (try simp only [push_cast] at hc)) | omega | (with_reducible intro _)))
    rintro i ⟨hi, hr⟩
    refine W_T ?_
    (repeat' (first | (simp (disch := omega) only [push_cast, ↓zz, seval]) | (with_reducible refine And.intro ?_ ?_) | (with_reducible refine condW_split ?_ ?_ <;> intro hc <;> (try simp only [push_cast] at hc)) | (with_reducible refine guardW_split ?_ ?_ <;> intro hc <;> (try simp only [push_cast] at hc)) | omega | (with_reducible intro _)))
    · rw [hr, rises_at (i := i) (by omega)]
      have : ¬ (nth t.parts i).up < (nth t.parts (i + 1)).up := by omega
      simp [this]
    · refine ⟨i + 1, ?_⟩
      (repeat' (first | (simp (disch := omega) only [push_cast, ↓zz, seval]) | (with_reducible refine And.intro ?_ ?_) | (with_reducible refine condW_split ?_ ?_ <;> intro hc <;> (try simp only [push_cast] at hc)) | (with_reducible refine guardW_split ?_ ?_ <;> intro hc <;> (try simp only [push_cast] at hc)) | omega | (with_reducible intro _)))
      rw [hr, rises_at (i := i) (by omega)]
      have : (nth t.parts i).up < (nth t.parts (i + 1)).up := by omega
      simp [this]
    · rw [hr, rises_end (i := i) (by omega)]
  all_goals (simp [numbersB, *])
def sortB (s : Int) : Bool := decide (s = 1 ∨ s = 2)
def rightsB (i n : Int) (l : List Part) : Bool := l.all fun p => rightB p n && (decide (i ≠ 2) || wholeB p)
def rightT (t : Term) (i o n : Int) : Bool := sortB i && sortB o && numbersB t && rightsB i n t.parts && (decide (i ≠ 2) || decide (t.parts.length ≤ 1)) && (decide (o ≠ 2) || plainB t)
theorem dom_nil (s : Int) : decide (((domL s).length : Int) = 0) = !sortB s := by
  unfold domL sortB
  split
  · subst_vars; decide
  · split
    · subst_vars; decide
    · simp [*]
theorem le_one (l : List Part) : (l.length ≤ 1) = ((l.length : Int) ≤ 1) := by simp only [eq_iff_iff]; omega
theorem term_Right (t : Term) (i o n : Int) (hl : t.parts.length < 1000000000000) : PC Try.prog 16 [termV t, .int .i64 i, .int .i64 o, .int .i64 n] (.bool (rightT t i o n)) := by
  refine pc_w' c_term_Right ?_
  unfold B_term_Right
  (repeat' (first | (simp (disch := omega) only [push_cast, ↓zz, seval, dom_nil]) | (with_reducible refine And.intro ?_ ?_) | (with_reducible refine condW_split ?_ ?_ <;> intro hc <;> (try simp only [push_cast] at hc)) | (with_reducible refine guardW_split ?_ ?_ <;> intro hc <;> (try simp only [push_cast] at hc)) | (have q_ := word_Domain i; (with_reducible first | refine eK q_ ?_ | refine eQ q_ ?_ | refine eG q_ ?_); clear q_) | (have q_ := word_Domain o; (with_reducible first | refine eK q_ ?_ | refine eQ q_ ?_ | refine eG q_ ?_); clear q_) | (have q_ := term_numbers t hl; (with_reducible first | refine eK q_ ?_ | refine eQ q_ ?_ | refine eG q_ ?_); clear q_) | (have q_ := word_Domain i; (with_reducible first | refine cK q_ ?_ | refine cQ q_ ?_ | refine cG q_ ?_); clear q_; (simp (disch := omega) only [push_cast, ↓zz, seval, dom_nil]); (fail_if_success (with_reducible change False))) | (have q_ := word_Domain o; (with_reducible first | refine cK q_ ?_ | refine cQ q_ ?_ | refine cG q_ ?_); clear q_; (simp (disch := omega) only [push_cast, ↓zz, seval, dom_nil]); (fail_if_success (with_reducible change False))) | (have q_ := term_numbers t hl; (with_reducible first | refine cK q_ ?_ | refine cQ q_ ?_ | refine cG q_ ?_); clear q_; (simp (disch := omega) only [push_cast, ↓zz, seval, dom_nil]); (fail_if_success (with_reducible change False))) | omega | (with_reducible intro _)))
  · simp [rightT, *]
  · have hn : rightT t i o n = (rightsB i n t.parts && (decide (i ≠ 2) || decide ((t.parts.length : Int) ≤ 1)) && (decide (o ≠ 2) || plainB t)) := by simp [rightT, le_one, *]
    rw [hn]
    refine LoopK_T (T_loopR (fun (k : Nat) => k ≤ t.parts.length ∧ rightsB i n t.parts = rightsB i n (t.parts.drop k)) (fun k => t.parts.length - k) (fun k => [(1, .int .i64 i), (2, .int .i64 o), (3, .int .i64 n), (4, .ptr 0 1 0 0), (27, partsV t.parts), (28, .int .i64 t.parts.length), (29, .int .i64 k)]) (fun _ => [⟨6, 1, true, [termV t]⟩]) (fun env _ => [srcOf 0 (env 4)]) 0 (by simp) ?_ ?_)
    · (repeat' (first | (simp (disch := omega) only [push_cast, ↓zz, seval]) | (with_reducible refine And.intro ?_ ?_) | (with_reducible refine condW_split ?_ ?_ <;> intro hc <;> (try simp only [push_cast] at hc)) | (with_reducible refine guardW_split ?_ ?_ <;> intro hc <;> (try simp only [push_cast] at hc)) | omega | (with_reducible intro _)))
    rintro k ⟨hi, hr⟩
    refine W_T ?_
    (repeat' (first | (simp (disch := omega) only [push_cast, ↓zz, seval]) | (with_reducible refine And.intro ?_ ?_) | (with_reducible refine condW_split ?_ ?_ <;> intro hc <;> (try simp only [push_cast] at hc)) | (with_reducible refine guardW_split ?_ ?_ <;> intro hc <;> (try simp only [push_cast] at hc)) | (have q_ := part_Right (nth t.parts k) n; (with_reducible first | refine eK q_ ?_ | refine eQ q_ ?_ | refine eG q_ ?_); clear q_) | (have q_ := part_Whole (nth t.parts k).at_; (with_reducible first | refine eK q_ ?_ | refine eQ q_ ?_ | refine eG q_ ?_); clear q_) | (have q_ := term_plain t; (with_reducible first | refine eK q_ ?_ | refine eQ q_ ?_ | refine eG q_ ?_); clear q_) | (have q_ := part_Right (nth t.parts k) n; (with_reducible first | refine cK q_ ?_ | refine cQ q_ ?_ | refine cG q_ ?_); clear q_; (simp (disch := omega) only [push_cast, ↓zz, seval]); (fail_if_success (with_reducible change False))) | (have q_ := part_Whole (nth t.parts k).at_; (with_reducible first | refine cK q_ ?_ | refine cQ q_ ?_ | refine cG q_ ?_); clear q_; (simp (disch := omega) only [push_cast, ↓zz, seval]); (fail_if_success (with_reducible change False))) | (have q_ := term_plain t; (with_reducible first | refine cK q_ ?_ | refine cQ q_ ?_ | refine cG q_ ?_); clear q_; (simp (disch := omega) only [push_cast, ↓zz, seval]); (fail_if_success (with_reducible change False))) | omega | (with_reducible intro _)))
    all_goals (first | (refine ⟨k + 1, ?_⟩; (repeat' (first | (simp (disch := omega) only [push_cast, ↓zz, seval]) | (with_reducible refine And.intro ?_ ?_) | (with_reducible refine condW_split ?_ ?_ <;> intro hc <;> (try simp only [push_cast] at hc)) | (with_reducible refine guardW_split ?_ ?_ <;> intro hc <;> (try simp only [push_cast] at hc)) | omega | (with_reducible intro _))); (try (first | (rw [hr, drop_at (by omega)]; simp [rightsB, wholeB, *]; done) | (rw [hr, List.drop_of_length_le (by omega)]; simp [rightsB, wholeB, *]; done) | (simp [rightsB, wholeB, *]; done))); done) | (first | (rw [hr, drop_at (by omega)]; simp [rightsB, wholeB, *]; done) | (rw [hr, List.drop_of_length_le (by omega)]; simp [rightsB, wholeB, *]; done) | (simp [rightsB, wholeB, *]; done)))
  all_goals (simp [rightT, *])
theorem ref_Right (t : Term) (i o n : Int) (hl : t.parts.length < 1000000000000) : PC Try.prog 17 [termV t, .int .i64 i, .int .i64 o, .int .i64 n] (.bool (rightT t i o n)) := by
  refine pc_w' c_ref04_Right ?_
  unfold B_ref04_Right
  (repeat' (first | (simp (disch := omega) only [push_cast, ↓zz, seval]) | (with_reducible refine And.intro ?_ ?_) | (with_reducible refine condW_split ?_ ?_ <;> intro hc <;> (try simp only [push_cast] at hc)) | (with_reducible refine guardW_split ?_ ?_ <;> intro hc <;> (try simp only [push_cast] at hc)) | (have q_ := ref_Numbers t hl; (with_reducible first | refine eK q_ ?_ | refine eQ q_ ?_ | refine eG q_ ?_); clear q_) | (have q_ := ref_Numbers t hl; (with_reducible first | refine cK q_ ?_ | refine cQ q_ ?_ | refine cG q_ ?_); clear q_; (simp (disch := omega) only [push_cast, ↓zz, seval]); (fail_if_success (with_reducible change False))) | omega | (with_reducible intro _)))
  all_goals first
    | (simp [rightT, sortB, *]; done)
    | ((have hn : rightT t i o n = (rightsB i n t.parts && (decide (i ≠ 2) || decide ((t.parts.length : Int) ≤ 1)) && (decide (o ≠ 2) || plainB t)) := by simp [rightT, sortB, le_one, *])
       rw [hn]
       refine LoopK_T (T_loopR (fun (k : Nat) => k ≤ t.parts.length ∧ rightsB i n t.parts = rightsB i n (t.parts.drop k) ∧ (i = 2 → k ≤ 1)) (fun k => t.parts.length - k) (fun k => [(1, .int .i64 i), (2, .int .i64 o), (3, .int .i64 n), (4, .ptr 0 1 0 0), (9, .int .i64 k)]) (fun _ => [⟨6, 1, true, [termV t]⟩]) (fun env _ => [srcOf 0 (env 4)]) 0 (by simp) ?_ ?_)
       · (repeat' (first | (simp (disch := omega) only [push_cast, ↓zz, seval]) | (with_reducible refine And.intro ?_ ?_) | (with_reducible refine condW_split ?_ ?_ <;> intro hc <;> (try simp only [push_cast] at hc)) | (with_reducible refine guardW_split ?_ ?_ <;> intro hc <;> (try simp only [push_cast] at hc)) | omega | (with_reducible intro _)))
       rintro k ⟨hi, hr, hk⟩
       refine W_T ?_
       (repeat' (first | (simp (disch := omega) only [push_cast, ↓zz, seval]) | (with_reducible refine And.intro ?_ ?_) | (with_reducible refine condW_split ?_ ?_ <;> intro hc <;> (try simp only [push_cast] at hc)) | (with_reducible refine guardW_split ?_ ?_ <;> intro hc <;> (try simp only [push_cast] at hc)) | (have q_ := ref03_Right (nth t.parts k) n; (with_reducible first | refine eK q_ ?_ | refine eQ q_ ?_ | refine eG q_ ?_); clear q_) | (have q_ := ref_all (nth t.parts k); (with_reducible first | refine eK q_ ?_ | refine eQ q_ ?_ | refine eG q_ ?_); clear q_) | (have q_ := ref_Plain t; (with_reducible first | refine eK q_ ?_ | refine eQ q_ ?_ | refine eG q_ ?_); clear q_) | (have q_ := ref03_Right (nth t.parts k) n; (with_reducible first | refine cK q_ ?_ | refine cQ q_ ?_ | refine cG q_ ?_); clear q_; (simp (disch := omega) only [push_cast, ↓zz, seval]); (fail_if_success (with_reducible change False))) | (have q_ := ref_all (nth t.parts k); (with_reducible first | refine cK q_ ?_ | refine cQ q_ ?_ | refine cG q_ ?_); clear q_; (simp (disch := omega) only [push_cast, ↓zz, seval]); (fail_if_success (with_reducible change False))) | (have q_ := ref_Plain t; (with_reducible first | refine cK q_ ?_ | refine cQ q_ ?_ | refine cG q_ ?_); clear q_; (simp (disch := omega) only [push_cast, ↓zz, seval]); (fail_if_success (with_reducible change False))) | omega | (with_reducible intro _)))
       all_goals first
         | (first | (refine ⟨k + 1, ?_⟩; (repeat' (first | (simp (disch := omega) only [push_cast, ↓zz, seval]) | (with_reducible refine And.intro ?_ ?_) | (with_reducible refine condW_split ?_ ?_ <;> intro hc <;> (try simp only [push_cast] at hc)) | (with_reducible refine guardW_split ?_ ?_ <;> intro hc <;> (try simp only [push_cast] at hc)) | omega | (with_reducible intro _))); (try (first | (rw [hr, drop_at (by omega)]; simp [rightsB, *]; done) | (rw [hr, List.drop_of_length_le (by omega)]; simp [rightsB, *]; done) | (simp [rightsB, *]; done))); done) | (first | (rw [hr, drop_at (by omega)]; simp [rightsB, *]; done) | (rw [hr, List.drop_of_length_le (by omega)]; simp [rightsB, *]; done) | (simp [rightsB, *]; done)))
         | ((have h2 : ¬ (t.parts.length : Int) ≤ 1 := by omega); simp [h2, *]; done)
         | (rw [hr, List.drop_of_length_le (by omega)]; (have h2 : i = 2 → (t.parts.length : Int) ≤ 1 := by omega); by_cases h3 : i = 2 <;> simp [rightsB, *]; done)
         )
end Go.Proofs.Ytdjbcenfgceejaa
set_option linter.unusedSimpArgs false
set_option linter.unusedVariables false
namespace Go.Proofs.Ytdjbcenfgceejaa
open Abs
theorem clone_parts (l : List Part) (hl : l.length ≤ 1000000000000) : PC Try.prog 53 [partsV l] (partsV l) := by
  by_cases h0 : l = []
  · subst h0
    refine pc_nil ?_ ?_
    · refine pc_w' c_slices_Clone_api_Part_api_Part ?_
      unfold B_slices_Clone_api_Part_api_Part
      (repeat' (first | (simp (disch := omega) only [push_cast, ↓zz, seval]) | (with_reducible refine And.intro ?_ ?_) | (with_reducible refine condW_split ?_ ?_ <;> intro hc <;> (try simp only [push_cast] at hc)) | (with_reducible refine guardW_split ?_ ?_ <;> intro hc <;> (try simp only [push_cast] at hc)) | omega | (with_reducible intro _)))
    · refine pc_w' c_slices_Clone_api_Part_api_Part ?_
      unfold B_slices_Clone_api_Part_api_Part
      (repeat' (first | (simp (disch := omega) only [push_cast, ↓zz, seval]) | (with_reducible refine And.intro ?_ ?_) | (with_reducible refine condW_split ?_ ?_ <;> intro hc <;> (try simp only [push_cast] at hc)) | (with_reducible refine guardW_split ?_ ?_ <;> intro hc <;> (try simp only [push_cast] at hc)) | omega | (with_reducible intro _)))
  · refine pc_w' c_slices_Clone_api_Part_api_Part ?_
    unfold B_slices_Clone_api_Part_api_Part
    (repeat' (first | (simp (disch := omega) only [push_cast, ↓zz, seval, h0]) | (with_reducible refine And.intro ?_ ?_) | (with_reducible refine condW_split ?_ ?_ <;> intro hc <;> (try simp only [push_cast] at hc)) | (with_reducible refine guardW_split ?_ ?_ <;> intro hc <;> (try simp only [push_cast] at hc)) | omega | (with_reducible intro _)))
theorem term_Const (x : Int) : PC Try.prog 19 [.int .i32 x] (termV ⟨0, 0, 21, 0, IntKind.i64.wrap x, []⟩) := by
  refine pc_w' c_term_Const ?_
  unfold B_term_Const
  (repeat' (first | (simp (disch := omega) only [push_cast, ↓zz, seval]) | (with_reducible refine And.intro ?_ ?_) | (with_reducible refine condW_split ?_ ?_ <;> intro hc <;> (try simp only [push_cast] at hc)) | (with_reducible refine guardW_split ?_ ?_ <;> intro hc <;> (try simp only [push_cast] at hc)) | omega | (with_reducible intro _)))
  all_goals trace_state
theorem term_Copy (a x : Int) : PC Try.prog 15 [.int .i64 a, .int .i64 x] (termV ⟨0, 0, 21, 0, x, [⟨a, 0, 21, 0⟩]⟩) := by
  refine pc_w' c_term_Copy ?_
  unfold B_term_Copy
  (repeat' (first | (simp (disch := omega) only [push_cast, ↓zz, seval]) | (with_reducible refine And.intro ?_ ?_) | (with_reducible refine condW_split ?_ ?_ <;> intro hc <;> (try simp only [push_cast] at hc)) | (with_reducible refine guardW_split ?_ ?_ <;> intro hc <;> (try simp only [push_cast] at hc)) | (have q_ := part_Whole a; (with_reducible first | refine eK q_ ?_ | refine eQ q_ ?_ | refine eG q_ ?_); clear q_) | (have q_ := part_Whole a; (with_reducible first | refine cK q_ ?_ | refine cQ q_ ?_ | refine cG q_ ?_); clear q_; (simp (disch := omega) only [push_cast, ↓zz, seval]); (fail_if_success (with_reducible change False))) | omega | (with_reducible intro _)))
  all_goals trace_state
def sumP (w : List Int) : List Part → Int → Option Int
  | [], a => some a
  | p :: l, a => if rightB p w.length then sumP w l (IntKind.i64.wrap (a + val1 p (nth w p.at_.toNat))) else none
def symB (x : Int) : Bool := decide (0 ≤ x ∧ x ≤ 1114111)
def valueT (t : Term) (w : List Int) : Option Int :=
  if w.all symB then
    match sumP w t.parts t.sum with
    | some x => if valB t.outer x && decide (x ≤ 1114111) then some (IntKind.i64.wrap (t.base + valP t.outer x)) else none
    | none => none
  else none
abbrev optV (o : Option Int) : AV := .tup [.int .i64 (o.getD 0), .bool o.isSome]
theorem sum_at {w : List Int} {l : List Part} {k : Nat} {a : Int} (h : k < l.length) : sumP w (l.drop k) a = if rightB (nth l k) w.length then sumP w (l.drop (k + 1)) (IntKind.i64.wrap (a + val1 (nth l k) (nth w (nth l k).at_.toNat))) else none := by
  rw [drop_at h, sumP]
theorem right_at {p : Part} {n : Int} (h : rightB p n = true) : 0 ≤ p.at_ ∧ p.at_ < n := by
  simp only [rightB, Bool.and_eq_true, decide_eq_true_eq] at h
  exact h.1
theorem all_at {w : List Int} {k : Nat} (h : k < w.length) : (w.drop k).all symB = (symB (nth w k) && (w.drop (k + 1)).all symB) := by rw [drop_at h, List.all_cons]
theorem term_Value (t : Term) (w : List Int) (hl : t.parts.length ≤ 1000000000000) (hw : w.length ≤ 1000000000000) (h32 : ∀ x ∈ w, -2147483648 ≤ x ∧ x ≤ 2147483647) : PC Try.prog 20 [termV t, runesV w] (optV (valueT t w)) := by
  refine pc_w' c_term_Value ?_
  unfold B_term_Value
  (repeat' (first | (simp (disch := omega) only [push_cast, ↓zz, seval]) | (with_reducible refine And.intro ?_ ?_) | (with_reducible refine condW_split ?_ ?_ <;> intro hc <;> (try simp only [push_cast] at hc)) | (with_reducible refine guardW_split ?_ ?_ <;> intro hc <;> (try simp only [push_cast] at hc)) | omega | (with_reducible intro _)))
  refine LoopK_T (T_loopR (fun (k : Nat) => k ≤ w.length ∧ w.all symB = (w.drop k).all symB) (fun k => w.length - k) (fun k => [(1, runesV w), (2, .ptr 0 1 0 0), (15, runesV w), (16, .int .i64 w.length), (17, .int .i64 k)]) (fun _ => [⟨6, 1, true, [termV t]⟩]) (fun env _ => [srcOf 0 (env 2)]) 0 (by simp) ?_ ?_)
  · (repeat' (first | (simp (disch := omega) only [push_cast, ↓zz, seval]) | (with_reducible refine And.intro ?_ ?_) | (with_reducible refine condW_split ?_ ?_ <;> intro hc <;> (try simp only [push_cast] at hc)) | (with_reducible refine guardW_split ?_ ?_ <;> intro hc <;> (try simp only [push_cast] at hc)) | omega | (with_reducible intro _)))
  rintro k ⟨hk, hr⟩
  refine W_T ?_
  (repeat' (first | (simp (disch := omega) only [push_cast, ↓zz, seval]) | (with_reducible refine And.intro ?_ ?_) | (with_reducible refine condW_split ?_ ?_ <;> intro hc <;> (try simp only [push_cast] at hc)) | (with_reducible refine guardW_split ?_ ?_ <;> intro hc <;> (try simp only [push_cast] at hc)) | omega | (with_reducible intro _)))
  · have e : valueT t w = none := by
      rw [all_at (by omega)] at hr
      have : symB (nth w k) = false := by simp [symB]; omega
      simp [valueT, hr, this]
    rw [e]; (repeat' (first | (simp (disch := omega) only [push_cast, ↓zz, seval, an_tup]) | omega | (with_reducible refine And.intro ?_ ?_)))
  · refine ⟨k + 1, ?_⟩
    (repeat' (first | (simp (disch := omega) only [push_cast, ↓zz, seval]) | (with_reducible refine And.intro ?_ ?_) | (with_reducible refine condW_split ?_ ?_ <;> intro hc <;> (try simp only [push_cast] at hc)) | (with_reducible refine guardW_split ?_ ?_ <;> intro hc <;> (try simp only [push_cast] at hc)) | omega | (with_reducible intro _)))
    rw [hr, all_at (by omega)]
    have : symB (nth w k) = true := by simp [symB]; omega
    simp [this]
  · have e : valueT t w = none := by
      rw [all_at (by omega)] at hr
      have : symB (nth w k) = false := by simp [symB]; omega
      simp [valueT, hr, this]
    rw [e]; (repeat' (first | (simp (disch := omega) only [push_cast, ↓zz, seval, an_tup]) | omega | (with_reducible refine And.intro ?_ ?_)))
  · have hall : w.all symB = true := by rw [hr, List.drop_of_length_le (by omega)]; rfl
    clear hr
    have hw32 : ∀ j, j < w.length → IntKind.i64.wrap (nth w j) = nth w j := fun j hj => by have := h32 _ (nth_mem hj); exact IntWalk.i64_in _ (by omega)
    refine LoopK_T (T_loopR (fun (s : Nat × Int) => s.1 ≤ t.parts.length ∧ sumP w t.parts t.sum = sumP w (t.parts.drop s.1) s.2) (fun s => t.parts.length - s.1) (fun s => [(1, runesV w), (2, .ptr 0 1 0 0), (8, .int .i64 s.2), (31, partsV t.parts), (32, .int .i64 t.parts.length), (33, .int .i64 s.1)]) (fun _ => [⟨6, 1, true, [termV t]⟩]) (fun env _ => [srcOf 0 (env 2)]) (0, t.sum) (by simp) ?_ ?_)
    · (repeat' (first | (simp (disch := omega) only [push_cast, ↓zz, seval]) | (with_reducible refine And.intro ?_ ?_) | (with_reducible refine condW_split ?_ ?_ <;> intro hc <;> (try simp only [push_cast] at hc)) | (with_reducible refine guardW_split ?_ ?_ <;> intro hc <;> (try simp only [push_cast] at hc)) | omega | (with_reducible intro _)))
    rintro ⟨k, a⟩ ⟨hk, hr2⟩
    simp only at hk hr2
    refine W_T ?_
    (repeat' (first | (simp (disch := omega) only [push_cast, ↓zz, seval, hw32]) | (with_reducible refine And.intro ?_ ?_) | (with_reducible refine condW_split ?_ ?_ <;> intro hc <;> (try simp only [push_cast] at hc) <;> (try have hk := right_at hc)) | (with_reducible refine guardW_split ?_ ?_ <;> intro hc <;> (try simp only [push_cast] at hc) <;> (try have hk := right_at hc)) | (have q_ := part_Right (nth t.parts k) w.length; (with_reducible first | refine eK q_ ?_ | refine eQ q_ ?_ | refine eG q_ ?_); clear q_) | (have q_ := part_Value (nth t.parts k) (nth w (nth t.parts k).at_.toNat); (with_reducible first | refine eK q_ ?_ | refine eQ q_ ?_ | refine eG q_ ?_); clear q_) | (have q_ := term_outer t; (with_reducible first | refine eK q_ ?_ | refine eQ q_ ?_ | refine eG q_ ?_); clear q_) | (have q_ := part_Value t.outer a; (with_reducible first | refine eK q_ ?_ | refine eQ q_ ?_ | refine eG q_ ?_); clear q_) | (have q_ := part_Right (nth t.parts k) w.length; (with_reducible first | refine cK q_ ?_ | refine cQ q_ ?_ | refine cG q_ ?_); clear q_; (simp (disch := omega) only [push_cast, ↓zz, seval, hw32]); (fail_if_success (with_reducible change False))) | (have q_ := part_Value (nth t.parts k) (nth w (nth t.parts k).at_.toNat); (with_reducible first | refine cK q_ ?_ | refine cQ q_ ?_ | refine cG q_ ?_); clear q_; (simp (disch := omega) only [push_cast, ↓zz, seval, hw32]); (fail_if_success (with_reducible change False))) | (have q_ := term_outer t; (with_reducible first | refine cK q_ ?_ | refine cQ q_ ?_ | refine cG q_ ?_); clear q_; (simp (disch := omega) only [push_cast, ↓zz, seval, hw32]); (fail_if_success (with_reducible change False))) | (have q_ := part_Value t.outer a; (with_reducible first | refine cK q_ ?_ | refine cQ q_ ?_ | refine cG q_ ?_); clear q_; (simp (disch := omega) only [push_cast, ↓zz, seval, hw32]); (fail_if_success (with_reducible change False))) | omega | (with_reducible intro _)))
    all_goals first
      | (rw [sum_at (by omega)] at hr2
         first
         | (have e : valueT t w = none := by simp [valueT, *]
            rw [e]; (repeat' (first | (simp (disch := omega) only [push_cast, ↓zz, seval, an_tup]) | omega | (with_reducible refine And.intro ?_ ?_))); done)
         | (refine ⟨(k + 1, IntKind.i64.wrap (a + val1 (nth t.parts k) (nth w (nth t.parts k).at_.toNat))), ?_⟩
            (repeat' (first | (simp (disch := omega) only [push_cast, ↓zz, seval]) | (with_reducible refine And.intro ?_ ?_) | (with_reducible refine condW_split ?_ ?_ <;> intro hc <;> (try simp only [push_cast] at hc)) | (with_reducible refine guardW_split ?_ ?_ <;> intro hc <;> (try simp only [push_cast] at hc)) | omega | (with_reducible intro _)))
            rw [hr2]; simp [‹rightB (nth t.parts k) w.length = true›]; done))
      | (rw [List.drop_of_length_le (by omega)] at hr2
         (have hs : sumP w t.parts t.sum = some a := hr2)
         (have hv : valueT t w = if valB t.outer a && decide (a ≤ 1114111) then some (IntKind.i64.wrap (t.base + valP t.outer a)) else none := by simp only [valueT, hall, hs, if_true])
         first
         | (rw [hv, if_neg (by simp only [Bool.and_eq_true, decide_eq_true_eq, not_and]; intro h; first | omega | (rw [‹valB t.outer a = false›] at h; cases h))]; (repeat' (first | (simp (disch := omega) only [push_cast, ↓zz, seval, an_tup]) | omega | (with_reducible refine And.intro ?_ ?_))); done)
         | ((have hv1 : val1 t.outer a = valP t.outer a := by simp only [val1, ‹valB t.outer a = true›, if_true])
            rw [hv, if_pos (by simp only [Bool.and_eq_true, decide_eq_true_eq]; exact ⟨‹_›, by omega⟩), hv1]; (repeat' (first | (simp (disch := omega) only [push_cast, ↓zz, seval, an_tup]) | omega | (with_reducible refine And.intro ?_ ?_))); done))
theorem ref_Value (t : Term) (w : List Int) (hl : t.parts.length ≤ 1000000000000) (hw : w.length ≤ 1000000000000) (h32 : ∀ x ∈ w, -2147483648 ≤ x ∧ x ≤ 2147483647) : PC Try.prog 21 [termV t, runesV w] (optV (valueT t w)) := by
  refine pc_w' c_ref04_Value ?_
  unfold B_ref04_Value
  (repeat' (first | (simp (disch := omega) only [push_cast, ↓zz, seval]) | (with_reducible refine And.intro ?_ ?_) | (with_reducible refine condW_split ?_ ?_ <;> intro hc <;> (try simp only [push_cast] at hc)) | (with_reducible refine guardW_split ?_ ?_ <;> intro hc <;> (try simp only [push_cast] at hc)) | omega | (with_reducible intro _)))
  refine LoopK_T (T_loopR (fun (k : Nat) => k ≤ w.length ∧ w.all symB = (w.drop k).all symB) (fun k => w.length - k) (fun k => [(1, runesV w), (2, .ptr 0 1 0 0), (6, .int .i64 k)]) (fun _ => [⟨6, 1, true, [termV t]⟩]) (fun env _ => [srcOf 0 (env 2)]) 0 (by simp) ?_ ?_)
  · (repeat' (first | (simp (disch := omega) only [push_cast, ↓zz, seval]) | (with_reducible refine And.intro ?_ ?_) | (with_reducible refine condW_split ?_ ?_ <;> intro hc <;> (try simp only [push_cast] at hc)) | (with_reducible refine guardW_split ?_ ?_ <;> intro hc <;> (try simp only [push_cast] at hc)) | omega | (with_reducible intro _)))
  rintro k ⟨hk, hr⟩
  refine W_T ?_
  (repeat' (first | (simp (disch := omega) only [push_cast, ↓zz, seval]) | (with_reducible refine And.intro ?_ ?_) | (with_reducible refine condW_split ?_ ?_ <;> intro hc <;> (try simp only [push_cast] at hc)) | (with_reducible refine guardW_split ?_ ?_ <;> intro hc <;> (try simp only [push_cast] at hc)) | omega | (with_reducible intro _)))
  · have e : valueT t w = none := by
      rw [all_at (by omega)] at hr
      have : symB (nth w k) = false := by simp [symB]; omega
      simp [valueT, hr, this]
    rw [e]; (repeat' (first | (simp (disch := omega) only [push_cast, ↓zz, seval, an_tup]) | omega | (with_reducible refine And.intro ?_ ?_)))
  · refine ⟨k + 1, ?_⟩
    (repeat' (first | (simp (disch := omega) only [push_cast, ↓zz, seval]) | (with_reducible refine And.intro ?_ ?_) | (with_reducible refine condW_split ?_ ?_ <;> intro hc <;> (try simp only [push_cast] at hc)) | (with_reducible refine guardW_split ?_ ?_ <;> intro hc <;> (try simp only [push_cast] at hc)) | omega | (with_reducible intro _)))
    rw [hr, all_at (by omega)]
    have : symB (nth w k) = true := by simp [symB]; omega
    simp [this]
  · have e : valueT t w = none := by
      rw [all_at (by omega)] at hr
      have : symB (nth w k) = false := by simp [symB]; omega
      simp [valueT, hr, this]
    rw [e]; (repeat' (first | (simp (disch := omega) only [push_cast, ↓zz, seval, an_tup]) | omega | (with_reducible refine And.intro ?_ ?_)))
  · have hall : w.all symB = true := by rw [hr, List.drop_of_length_le (by omega)]; rfl
    clear hr
    have hw32 : ∀ j, j < w.length → IntKind.i64.wrap (nth w j) = nth w j := fun j hj => by have := h32 _ (nth_mem hj); exact IntWalk.i64_in _ (by omega)
    refine LoopK_T (T_loopR (fun (s : Nat × Int) => s.1 ≤ t.parts.length ∧ sumP w t.parts t.sum = sumP w (t.parts.drop s.1) s.2) (fun s => t.parts.length - s.1) (fun s => [(1, runesV w), (2, .ptr 0 1 0 0), (7, .int .i64 s.2), (8, .int .i64 s.1)]) (fun _ => [⟨6, 1, true, [termV t]⟩]) (fun env _ => [srcOf 0 (env 2)]) (0, t.sum) (by simp) ?_ ?_)
    · (repeat' (first | (simp (disch := omega) only [push_cast, ↓zz, seval]) | (with_reducible refine And.intro ?_ ?_) | (with_reducible refine condW_split ?_ ?_ <;> intro hc <;> (try simp only [push_cast] at hc)) | (with_reducible refine guardW_split ?_ ?_ <;> intro hc <;> (try simp only [push_cast] at hc)) | omega | (with_reducible intro _)))
    rintro ⟨k, a⟩ ⟨hk, hr2⟩
    simp only at hk hr2
    refine W_T ?_
    (repeat' (first | (simp (disch := omega) only [push_cast, ↓zz, seval, hw32]) | (with_reducible refine And.intro ?_ ?_) | (with_reducible refine condW_split ?_ ?_ <;> intro hc <;> (try simp only [push_cast] at hc) <;> (try have hk := right_at hc)) | (with_reducible refine guardW_split ?_ ?_ <;> intro hc <;> (try simp only [push_cast] at hc) <;> (try have hk := right_at hc)) | (have q_ := ref03_Right (nth t.parts k) w.length; (with_reducible first | refine eK q_ ?_ | refine eQ q_ ?_ | refine eG q_ ?_); clear q_) | (have q_ := ref03_Value (nth t.parts k) (nth w (nth t.parts k).at_.toNat); (with_reducible first | refine eK q_ ?_ | refine eQ q_ ?_ | refine eG q_ ?_); clear q_) | (have q_ := ref_Outer t; (with_reducible first | refine eK q_ ?_ | refine eQ q_ ?_ | refine eG q_ ?_); clear q_) | (have q_ := ref03_Value t.outer a; (with_reducible first | refine eK q_ ?_ | refine eQ q_ ?_ | refine eG q_ ?_); clear q_) | (have q_ := ref03_Right (nth t.parts k) w.length; (with_reducible first | refine cK q_ ?_ | refine cQ q_ ?_ | refine cG q_ ?_); clear q_; (simp (disch := omega) only [push_cast, ↓zz, seval, hw32]); (fail_if_success (with_reducible change False))) | (have q_ := ref03_Value (nth t.parts k) (nth w (nth t.parts k).at_.toNat); (with_reducible first | refine cK q_ ?_ | refine cQ q_ ?_ | refine cG q_ ?_); clear q_; (simp (disch := omega) only [push_cast, ↓zz, seval, hw32]); (fail_if_success (with_reducible change False))) | (have q_ := ref_Outer t; (with_reducible first | refine cK q_ ?_ | refine cQ q_ ?_ | refine cG q_ ?_); clear q_; (simp (disch := omega) only [push_cast, ↓zz, seval, hw32]); (fail_if_success (with_reducible change False))) | (have q_ := ref03_Value t.outer a; (with_reducible first | refine cK q_ ?_ | refine cQ q_ ?_ | refine cG q_ ?_); clear q_; (simp (disch := omega) only [push_cast, ↓zz, seval, hw32]); (fail_if_success (with_reducible change False))) | omega | (with_reducible intro _)))
    all_goals first
      | (rw [sum_at (by omega)] at hr2
         first
         | (have e : valueT t w = none := by simp [valueT, *]
            rw [e]; (repeat' (first | (simp (disch := omega) only [push_cast, ↓zz, seval, an_tup]) | omega | (with_reducible refine And.intro ?_ ?_))); done)
         | (refine ⟨(k + 1, IntKind.i64.wrap (a + val1 (nth t.parts k) (nth w (nth t.parts k).at_.toNat))), ?_⟩
            (repeat' (first | (simp (disch := omega) only [push_cast, ↓zz, seval]) | (with_reducible refine And.intro ?_ ?_) | (with_reducible refine condW_split ?_ ?_ <;> intro hc <;> (try simp only [push_cast] at hc)) | (with_reducible refine guardW_split ?_ ?_ <;> intro hc <;> (try simp only [push_cast] at hc)) | omega | (with_reducible intro _)))
            rw [hr2]; simp [‹rightB (nth t.parts k) w.length = true›]; done))
      | (rw [List.drop_of_length_le (by omega)] at hr2
         (have hs : sumP w t.parts t.sum = some a := hr2)
         (have hv : valueT t w = if valB t.outer a && decide (a ≤ 1114111) then some (IntKind.i64.wrap (t.base + valP t.outer a)) else none := by simp only [valueT, hall, hs, if_true])
         first
         | (rw [hv, if_neg (by simp only [Bool.and_eq_true, decide_eq_true_eq, not_and, valB]; intro h; first | omega | (rw [‹valB t.outer a = false›] at h; cases h))]; (repeat' (first | (simp (disch := omega) only [push_cast, ↓zz, seval, an_tup]) | omega | (with_reducible refine And.intro ?_ ?_))); done)
         | (rw [hv, if_neg (by simp only [Bool.and_eq_true, decide_eq_true_eq, not_and]; intro h; first | omega | (rw [‹valB t.outer a = false›] at h; cases h))]; (repeat' (first | (simp (disch := omega) only [push_cast, ↓zz, seval, an_tup]) | omega | (with_reducible refine And.intro ?_ ?_))); done)
         | ((have hv1 : val1 t.outer a = valP t.outer a := by simp only [val1, ‹valB t.outer a = true›, if_true])
            rw [hv, if_pos (by simp only [Bool.and_eq_true, decide_eq_true_eq]; exact ⟨‹_›, by omega⟩), hv1]; (repeat' (first | (simp (disch := omega) only [push_cast, ↓zz, seval, an_tup]) | omega | (with_reducible refine And.intro ?_ ?_))); done))
end Go.Proofs.Ytdjbcenfgceejaa
set_option linter.unusedSimpArgs false
set_option linter.unusedVariables false
namespace Go.Proofs.Ytdjbcenfgceejaa
open Abs
def zeroT : Term := ⟨0, 0, 0, 0, 0, []⟩
def whole0 (p : Part) : Bool := decide (p.at_ = 0) && (decide (p.drop = 0) && (decide (p.take = 21) && decide (p.up = 0)))
def putT (u t : Term) : Option Term :=
  if (u.parts.length : Int) = 0 then some u
  else if 1 < (u.parts.length : Int) then none
  else if whole0 (nth u.parts 0) = false then none
  else if smallB u.sum = false then none
  else if plainB t = true then (if smallB t.sum = false then none else if smallB (u.sum + t.sum) = false then none else some ⟨u.base, u.drop, u.take, u.up, u.sum + t.sum, t.parts⟩)
  else if plainB u = false then none
  else if smallB t.base = false then none
  else if smallB (u.sum + t.base) = false then none
  else some ⟨u.sum + t.base, t.drop, t.take, t.up, t.sum, t.parts⟩
abbrev optT (o : Option Term) : AV := .tup [termV (o.getD zeroT), .bool o.isSome]
theorem small_iff {x : Int} : smallB x = true ↔ -1114111 ≤ x ∧ x ≤ 1114111 := by simp [smallB]
theorem small_bd {x : Int} (h : smallB x = true) : -1114111 ≤ x ∧ x ≤ 1114111 := small_iff.1 h
set_option maxHeartbeats 1000000 in
theorem term_Put (u t : Term) (hl : t.parts.length ≤ 1000000000000) : PC Try.prog 22 [termV u, termV t] (optT (putT u t)) := by
  refine pc_w' c_term_Put ?_
  unfold B_term_Put
  (repeat' (first | (simp (disch := omega) only [push_cast, ↓zz, seval]) | (with_reducible refine And.intro ?_ ?_) | (with_reducible refine condW_split ?_ ?_ <;> intro hc <;> (try simp only [push_cast] at hc) <;> (try have hk := small_bd hc)) | (with_reducible refine guardW_split ?_ ?_ <;> intro hc <;> (try simp only [push_cast] at hc) <;> (try have hk := small_bd hc)) | (have q_ := part_Whole 0; (with_reducible first | refine eK q_ ?_ | refine eQ q_ ?_ | refine eG q_ ?_); clear q_) | (have q_ := term_small u.sum; (with_reducible first | refine eK q_ ?_ | refine eQ q_ ?_ | refine eG q_ ?_); clear q_) | (have q_ := term_plain t; (with_reducible first | refine eK q_ ?_ | refine eQ q_ ?_ | refine eG q_ ?_); clear q_) | (have q_ := term_plain u; (with_reducible first | refine eK q_ ?_ | refine eQ q_ ?_ | refine eG q_ ?_); clear q_) | (have q_ := term_small t.sum; (with_reducible first | refine eK q_ ?_ | refine eQ q_ ?_ | refine eG q_ ?_); clear q_) | (have q_ := term_small t.base; (with_reducible first | refine eK q_ ?_ | refine eQ q_ ?_ | refine eG q_ ?_); clear q_) | (have q_ := term_small (u.sum + t.sum); (with_reducible first | refine eK q_ ?_ | refine eQ q_ ?_ | refine eG q_ ?_); clear q_) | (have q_ := term_small (u.sum + t.base); (with_reducible first | refine eK q_ ?_ | refine eQ q_ ?_ | refine eG q_ ?_); clear q_) | (have q_ := clone_parts t.parts hl; (with_reducible first | refine eK q_ ?_ | refine eQ q_ ?_ | refine eG q_ ?_); clear q_) | (have q_ := part_Whole 0; (with_reducible first | refine cK q_ ?_ | refine cQ q_ ?_ | refine cG q_ ?_); clear q_; (simp (disch := omega) only [push_cast, ↓zz, seval]); (fail_if_success (with_reducible change False))) | (have q_ := term_small u.sum; (with_reducible first | refine cK q_ ?_ | refine cQ q_ ?_ | refine cG q_ ?_); clear q_; (simp (disch := omega) only [push_cast, ↓zz, seval]); (fail_if_success (with_reducible change False))) | (have q_ := term_plain t; (with_reducible first | refine cK q_ ?_ | refine cQ q_ ?_ | refine cG q_ ?_); clear q_; (simp (disch := omega) only [push_cast, ↓zz, seval]); (fail_if_success (with_reducible change False))) | (have q_ := term_plain u; (with_reducible first | refine cK q_ ?_ | refine cQ q_ ?_ | refine cG q_ ?_); clear q_; (simp (disch := omega) only [push_cast, ↓zz, seval]); (fail_if_success (with_reducible change False))) | (have q_ := term_small t.sum; (with_reducible first | refine cK q_ ?_ | refine cQ q_ ?_ | refine cG q_ ?_); clear q_; (simp (disch := omega) only [push_cast, ↓zz, seval]); (fail_if_success (with_reducible change False))) | (have q_ := term_small t.base; (with_reducible first | refine cK q_ ?_ | refine cQ q_ ?_ | refine cG q_ ?_); clear q_; (simp (disch := omega) only [push_cast, ↓zz, seval]); (fail_if_success (with_reducible change False))) | (have q_ := term_small (u.sum + t.sum); (with_reducible first | refine cK q_ ?_ | refine cQ q_ ?_ | refine cG q_ ?_); clear q_; (simp (disch := omega) only [push_cast, ↓zz, seval]); (fail_if_success (with_reducible change False))) | (have q_ := term_small (u.sum + t.base); (with_reducible first | refine cK q_ ?_ | refine cQ q_ ?_ | refine cG q_ ?_); clear q_; (simp (disch := omega) only [push_cast, ↓zz, seval]); (fail_if_success (with_reducible change False))) | (have q_ := clone_parts t.parts hl; (with_reducible first | refine cK q_ ?_ | refine cQ q_ ?_ | refine cG q_ ?_); clear q_; (simp (disch := omega) only [push_cast, ↓zz, seval]); (fail_if_success (with_reducible change False))) | omega | (with_reducible intro _)))
  all_goals first
    | (exfalso; simp_all only [Bool.false_eq_true, Bool.true_eq_false]; done)
    | ((with_reducible apply an_rw); (focus (simp only [putT, whole0, optT, zeroT, *, ↓reduceIte, reduceCtorEq, Bool.true_eq_false, Bool.false_eq_true, Option.getD_some, Option.getD_none, Option.isSome_some, Option.isSome_none]; exact rfl)); (repeat' (first | (simp (disch := omega) only [push_cast, ↓zz, seval, an_tup]) | omega | (with_reducible refine And.intro ?_ ?_))); done)
    | ((have h0 : u.parts = [] := List.eq_nil_of_length_eq_zero (by omega)); ((with_reducible apply an_rw); (focus (simp only [putT, optT, List.length_nil, Int.cast_ofNat_Int, *, ↓reduceIte, reduceCtorEq, Bool.true_eq_false, Bool.false_eq_true, Option.getD_some, Option.getD_none, Option.isSome_some, Option.isSome_none]; exact rfl)); (repeat' (first | (simp (disch := omega) only [push_cast, ↓zz, seval, an_tup]) | omega | (with_reducible refine And.intro ?_ ?_))); done))
    | trace_state
end Go.Proofs.Ytdjbcenfgceejaa
set_option linter.unusedSimpArgs false
set_option linter.unusedVariables false
namespace Go.Proofs.Ytdjbcenfgceejaa
open Abs
theorem whole_iff (p : Part) : whole0 p = (decide (p.at_ = 0) && wholeB p) := by simp [whole0, wholeB]
set_option maxHeartbeats 1000000 in
theorem ref_Put (u t : Term) : PC Try.prog 23 [termV u, termV t] (optT (putT u t)) := by
  refine pc_w' c_ref04_Put ?_
  unfold B_ref04_Put
  (repeat' (first | (simp (disch := omega) only [push_cast, ↓zz, seval]) | (with_reducible refine And.intro ?_ ?_) | (with_reducible refine condW_split ?_ ?_ <;> intro hc <;> (try simp only [push_cast] at hc) <;> (try have hk := small_bd hc)) | (with_reducible refine guardW_split ?_ ?_ <;> intro hc <;> (try simp only [push_cast] at hc) <;> (try have hk := small_bd hc)) | (have q_ := ref_all (nth u.parts 0); (with_reducible first | refine eK q_ ?_ | refine eQ q_ ?_ | refine eG q_ ?_); clear q_) | (have q_ := ref_small u.sum; (with_reducible first | refine eK q_ ?_ | refine eQ q_ ?_ | refine eG q_ ?_); clear q_) | (have q_ := ref_Plain t; (with_reducible first | refine eK q_ ?_ | refine eQ q_ ?_ | refine eG q_ ?_); clear q_) | (have q_ := ref_Plain u; (with_reducible first | refine eK q_ ?_ | refine eQ q_ ?_ | refine eG q_ ?_); clear q_) | (have q_ := ref_small t.sum; (with_reducible first | refine eK q_ ?_ | refine eQ q_ ?_ | refine eG q_ ?_); clear q_) | (have q_ := ref_small t.base; (with_reducible first | refine eK q_ ?_ | refine eQ q_ ?_ | refine eG q_ ?_); clear q_) | (have q_ := ref_small (u.sum + t.sum); (with_reducible first | refine eK q_ ?_ | refine eQ q_ ?_ | refine eG q_ ?_); clear q_) | (have q_ := ref_small (u.sum + t.base); (with_reducible first | refine eK q_ ?_ | refine eQ q_ ?_ | refine eG q_ ?_); clear q_) | (have q_ := ref_all (nth u.parts 0); (with_reducible first | refine cK q_ ?_ | refine cQ q_ ?_ | refine cG q_ ?_); clear q_; (simp (disch := omega) only [push_cast, ↓zz, seval]); (fail_if_success (with_reducible change False))) | (have q_ := ref_small u.sum; (with_reducible first | refine cK q_ ?_ | refine cQ q_ ?_ | refine cG q_ ?_); clear q_; (simp (disch := omega) only [push_cast, ↓zz, seval]); (fail_if_success (with_reducible change False))) | (have q_ := ref_Plain t; (with_reducible first | refine cK q_ ?_ | refine cQ q_ ?_ | refine cG q_ ?_); clear q_; (simp (disch := omega) only [push_cast, ↓zz, seval]); (fail_if_success (with_reducible change False))) | (have q_ := ref_Plain u; (with_reducible first | refine cK q_ ?_ | refine cQ q_ ?_ | refine cG q_ ?_); clear q_; (simp (disch := omega) only [push_cast, ↓zz, seval]); (fail_if_success (with_reducible change False))) | (have q_ := ref_small t.sum; (with_reducible first | refine cK q_ ?_ | refine cQ q_ ?_ | refine cG q_ ?_); clear q_; (simp (disch := omega) only [push_cast, ↓zz, seval]); (fail_if_success (with_reducible change False))) | (have q_ := ref_small t.base; (with_reducible first | refine cK q_ ?_ | refine cQ q_ ?_ | refine cG q_ ?_); clear q_; (simp (disch := omega) only [push_cast, ↓zz, seval]); (fail_if_success (with_reducible change False))) | (have q_ := ref_small (u.sum + t.sum); (with_reducible first | refine cK q_ ?_ | refine cQ q_ ?_ | refine cG q_ ?_); clear q_; (simp (disch := omega) only [push_cast, ↓zz, seval]); (fail_if_success (with_reducible change False))) | (have q_ := ref_small (u.sum + t.base); (with_reducible first | refine cK q_ ?_ | refine cQ q_ ?_ | refine cG q_ ?_); clear q_; (simp (disch := omega) only [push_cast, ↓zz, seval]); (fail_if_success (with_reducible change False))) | omega | (with_reducible intro _)))
  all_goals first
    | (exfalso; simp_all only [Bool.false_eq_true, Bool.true_eq_false]; done)
    | ((with_reducible apply an_rw); (focus (simp only [putT, whole_iff, optT, zeroT, decide_true, decide_false, Bool.true_and, Bool.false_and, *, ↓reduceIte, reduceCtorEq, Bool.true_eq_false, Bool.false_eq_true, Option.getD_some, Option.getD_none, Option.isSome_some, Option.isSome_none]; exact rfl)); (repeat' (first | (simp (disch := omega) only [push_cast, ↓zz, seval, an_tup]) | omega | (with_reducible refine And.intro ?_ ?_))); done)
    | trace_state
end Go.Proofs.Ytdjbcenfgceejaa
set_option linter.unusedSimpArgs false
set_option linter.unusedVariables false
namespace Go.Proofs.Ytdjbcenfgceejaa
open Abs
def bindF (w : List Int) (a : Int) : List Part → Int → List Part → Int × List Part
  | [], s, l => (s, l)
  | p :: r, s, l =>
    if p.at_ = a then bindF w a r s (l ++ [⟨0, p.drop, p.take, p.up⟩])
    else if 0 ≤ p.at_ ∧ p.at_ < w.length ∧ valB p (nth w p.at_.toNat) = true then bindF w a r (IntKind.i64.wrap (s + val1 p (nth w p.at_.toNat))) l
    else bindF w a r s (l ++ [p])
def bindT (t : Term) (w : List Int) (a : Int) : Term := ⟨t.base, t.drop, t.take, t.up, (bindF w a t.parts t.sum []).1, (bindF w a t.parts t.sum []).2⟩
theorem bind_at {w : List Int} {a : Int} {l m : List Part} {k : Nat} {s : Int} (h : k < l.length) : bindF w a (l.drop k) s m =
    if (nth l k).at_ = a then bindF w a (l.drop (k + 1)) s (m ++ [⟨0, (nth l k).drop, (nth l k).take, (nth l k).up⟩])
    else if 0 ≤ (nth l k).at_ ∧ (nth l k).at_ < w.length ∧ valB (nth l k) (nth w (nth l k).at_.toNat) = true then bindF w a (l.drop (k + 1)) (IntKind.i64.wrap (s + val1 (nth l k) (nth w (nth l k).at_.toNat))) m
    else bindF w a (l.drop (k + 1)) s (m ++ [nth l k]) := by
  rw [drop_at h, bindF]
set_option maxHeartbeats 1000000 in
theorem term_Bind (t : Term) (w : List Int) (a : Int) (hl : t.parts.length ≤ 1000000000000) (hw : w.length ≤ 1000000000000) (h32 : ∀ x ∈ w, -2147483648 ≤ x ∧ x ≤ 2147483647) : PC Try.prog 24 [termV t, runesV w, .int .i64 a] (termV (bindT t w a)) := by
  have hw32 : ∀ j, j < w.length → IntKind.i64.wrap (nth w j) = nth w j := fun j hj => by have := h32 _ (nth_mem hj); exact IntWalk.i64_in _ (by omega)
  refine pc_w' c_term_Bind ?_
  unfold B_term_Bind
  (repeat' (first | (simp (disch := omega) only [push_cast, ↓zz, seval]) | (with_reducible refine And.intro ?_ ?_) | (with_reducible refine condW_split ?_ ?_ <;> intro hc <;> (try simp only [push_cast] at hc)) | (with_reducible refine guardW_split ?_ ?_ <;> intro hc <;> (try simp only [push_cast] at hc)) | omega | (with_reducible intro _)))
  refine LoopK_T (T_loopR (fun (s : Nat × Int × List Part) => s.1 ≤ t.parts.length ∧ s.2.2.length ≤ s.1 ∧ bindF w a t.parts t.sum [] = bindF w a (t.parts.drop s.1) s.2.1 s.2.2) (fun s => t.parts.length - s.1)
    (fun s => [(1, runesV w), (2, .int .i64 a), (3, .ptr 0 1 0 0), (6, .ptr 1 1 0 0), (7, .ref 2 1 0 s.2.2.length), (13, partsV t.parts), (14, .int .i64 t.parts.length), (15, .int .i64 s.1)])
    (fun s => [⟨6, 1, true, [termV ⟨t.base, t.drop, t.take, t.up, s.2.1, t.parts⟩]⟩, ⟨6, 1, true, [.agg [.int .i64 0, .int .i64 0, .int .i64 0, .int .i64 0, .int .i64 0, .nilS]]⟩, ⟨4, 1, false, s.2.2.map partV⟩])
    (fun env _ => [srcOf 0 (env 3), srcOf 0 (env 6), srcOf 4 (env 7)]) (0, t.sum, []) (by simp) ?_ ?_)
  · (repeat' (first | (simp (disch := omega) only [push_cast, ↓zz, seval]) | (with_reducible refine And.intro ?_ ?_) | (with_reducible refine condW_split ?_ ?_ <;> intro hc <;> (try simp only [push_cast] at hc)) | (with_reducible refine guardW_split ?_ ?_ <;> intro hc <;> (try simp only [push_cast] at hc)) | omega | (with_reducible intro _)))
  rintro ⟨k, s, m⟩ ⟨hk, hm, hr⟩
  simp only at hk hm hr
  refine W_T ?_
  (repeat' (first | (simp (disch := omega) only [push_cast, ↓zz, seval, hw32]) | (with_reducible refine And.intro ?_ ?_) | (with_reducible refine condW_split ?_ ?_ <;> intro hc <;> (try simp only [push_cast] at hc)) | (with_reducible refine guardW_split ?_ ?_ <;> intro hc <;> (try simp only [push_cast] at hc)) | (have q_ := part_Value (nth t.parts k) (nth w (nth t.parts k).at_.toNat); (with_reducible first | refine eK q_ ?_ | refine eQ q_ ?_ | refine eG q_ ?_); clear q_) | (have q_ := part_Value (nth t.parts k) (nth w (nth t.parts k).at_.toNat); (with_reducible first | refine cK q_ ?_ | refine cQ q_ ?_ | refine cG q_ ?_); clear q_; (simp (disch := omega) only [push_cast, ↓zz, seval, hw32]); (fail_if_success (with_reducible change False))) | omega | (with_reducible intro _)))
  all_goals first
    | (refine ⟨(k + 1, s, m ++ [⟨0, (nth t.parts k).drop, (nth t.parts k).take, (nth t.parts k).up⟩]), ?_⟩
       (repeat' (first | (simp (disch := omega) only [push_cast, ↓zz, seval]) | (with_reducible refine And.intro ?_ ?_) | (with_reducible refine condW_split ?_ ?_ <;> intro hc <;> (try simp only [push_cast] at hc)) | (with_reducible refine guardW_split ?_ ?_ <;> intro hc <;> (try simp only [push_cast] at hc)) | omega | (with_reducible intro _)))
       rw [hr, bind_at (by omega), if_pos ‹_›]; done)
    | (refine ⟨(k + 1, IntKind.i64.wrap (s + val1 (nth t.parts k) (nth w (nth t.parts k).at_.toNat)), m), ?_⟩
       (repeat' (first | (simp (disch := omega) only [push_cast, ↓zz, seval]) | (with_reducible refine And.intro ?_ ?_) | (with_reducible refine condW_split ?_ ?_ <;> intro hc <;> (try simp only [push_cast] at hc)) | (with_reducible refine guardW_split ?_ ?_ <;> intro hc <;> (try simp only [push_cast] at hc)) | omega | (with_reducible intro _)))
       rw [hr, bind_at (by omega), if_neg ‹_›, if_pos ⟨‹_›, ‹_›, ‹_›⟩]; done)
    | (refine ⟨(k + 1, s, m ++ [nth t.parts k]), ?_⟩
       (repeat' (first | (simp (disch := omega) only [push_cast, ↓zz, seval]) | (with_reducible refine And.intro ?_ ?_) | (with_reducible refine condW_split ?_ ?_ <;> intro hc <;> (try simp only [push_cast] at hc)) | (with_reducible refine guardW_split ?_ ?_ <;> intro hc <;> (try simp only [push_cast] at hc)) | omega | (with_reducible intro _)))
       rw [hr, bind_at (by omega), if_neg ‹_›, if_neg (by rintro ⟨h1, h2, h3⟩; first | omega | (rw [‹valB (nth t.parts k) (nth w (nth t.parts k).at_.toNat) = false›] at h3; cases h3))]; done)
    | (rw [List.drop_of_length_le (by omega), bindF] at hr; simp only [bindT, hr]; done)
    | trace_state
set_option maxHeartbeats 1000000 in
theorem ref_Bind (t : Term) (w : List Int) (a : Int) (hl : t.parts.length ≤ 1000000000000) (hw : w.length ≤ 1000000000000) (h32 : ∀ x ∈ w, -2147483648 ≤ x ∧ x ≤ 2147483647) : PC Try.prog 25 [termV t, runesV w, .int .i64 a] (termV (bindT t w a)) := by
  have hw32 : ∀ j, j < w.length → IntKind.i64.wrap (nth w j) = nth w j := fun j hj => by have := h32 _ (nth_mem hj); exact IntWalk.i64_in _ (by omega)
  refine pc_w' c_ref04_Bind ?_
  unfold B_ref04_Bind
  (repeat' (first | (simp (disch := omega) only [push_cast, ↓zz, seval]) | (with_reducible refine And.intro ?_ ?_) | (with_reducible refine condW_split ?_ ?_ <;> intro hc <;> (try simp only [push_cast] at hc)) | (with_reducible refine guardW_split ?_ ?_ <;> intro hc <;> (try simp only [push_cast] at hc)) | omega | (with_reducible intro _)))
  refine LoopK_T (T_loopR (fun (s : Nat × Int × List Part) => s.1 ≤ t.parts.length ∧ s.2.2.length ≤ s.1 ∧ bindF w a t.parts t.sum [] = bindF w a (t.parts.drop s.1) s.2.1 s.2.2) (fun s => t.parts.length - s.1)
    (fun s => [(1, runesV w), (2, .int .i64 a), (3, .ptr 0 1 0 0), (6, .ptr 1 1 0 0), (7, .ref 2 1 0 s.2.2.length), (8, .int .i64 s.2.1), (9, .int .i64 s.1)])
    (fun s => [⟨6, 1, true, [termV t]⟩, ⟨6, 1, true, [.agg [.int .i64 0, .int .i64 0, .int .i64 0, .int .i64 0, .int .i64 0, .nilS]]⟩, ⟨4, 1, false, s.2.2.map partV⟩])
    (fun env _ => [srcOf 0 (env 3), srcOf 0 (env 6), srcOf 4 (env 7)]) (0, t.sum, []) (by simp) ?_ ?_)
  · (repeat' (first | (simp (disch := omega) only [push_cast, ↓zz, seval]) | (with_reducible refine And.intro ?_ ?_) | (with_reducible refine condW_split ?_ ?_ <;> intro hc <;> (try simp only [push_cast] at hc)) | (with_reducible refine guardW_split ?_ ?_ <;> intro hc <;> (try simp only [push_cast] at hc)) | omega | (with_reducible intro _)))
  rintro ⟨k, s, m⟩ ⟨hk, hm, hr⟩
  simp only at hk hm hr
  refine W_T ?_
  (repeat' (first | (simp (disch := omega) only [push_cast, ↓zz, seval, hw32]) | (with_reducible refine And.intro ?_ ?_) | (with_reducible refine condW_split ?_ ?_ <;> intro hc <;> (try simp only [push_cast] at hc)) | (with_reducible refine guardW_split ?_ ?_ <;> intro hc <;> (try simp only [push_cast] at hc)) | (have q_ := ref03_Value (nth t.parts k) (nth w (nth t.parts k).at_.toNat); (with_reducible first | refine eK q_ ?_ | refine eQ q_ ?_ | refine eG q_ ?_); clear q_) | (have q_ := ref03_Value (nth t.parts k) (nth w (nth t.parts k).at_.toNat); (with_reducible first | refine cK q_ ?_ | refine cQ q_ ?_ | refine cG q_ ?_); clear q_; (simp (disch := omega) only [push_cast, ↓zz, seval, hw32]); (fail_if_success (with_reducible change False))) | omega | (with_reducible intro _)))
  all_goals first
    | (refine ⟨(k + 1, s, m ++ [⟨0, (nth t.parts k).drop, (nth t.parts k).take, (nth t.parts k).up⟩]), ?_⟩
       (repeat' (first | (simp (disch := omega) only [push_cast, ↓zz, seval]) | (with_reducible refine And.intro ?_ ?_) | (with_reducible refine condW_split ?_ ?_ <;> intro hc <;> (try simp only [push_cast] at hc)) | (with_reducible refine guardW_split ?_ ?_ <;> intro hc <;> (try simp only [push_cast] at hc)) | omega | (with_reducible intro _)))
       rw [hr, bind_at (by omega), if_pos ‹_›]; done)
    | (refine ⟨(k + 1, IntKind.i64.wrap (s + val1 (nth t.parts k) (nth w (nth t.parts k).at_.toNat)), m), ?_⟩
       (repeat' (first | (simp (disch := omega) only [push_cast, ↓zz, seval]) | (with_reducible refine And.intro ?_ ?_) | (with_reducible refine condW_split ?_ ?_ <;> intro hc <;> (try simp only [push_cast] at hc)) | (with_reducible refine guardW_split ?_ ?_ <;> intro hc <;> (try simp only [push_cast] at hc)) | omega | (with_reducible intro _)))
       rw [hr, bind_at (by omega), if_neg ‹_›, if_pos ⟨‹_›, ‹_›, ‹_›⟩]; done)
    | (refine ⟨(k + 1, s, m ++ [nth t.parts k]), ?_⟩
       (repeat' (first | (simp (disch := omega) only [push_cast, ↓zz, seval]) | (with_reducible refine And.intro ?_ ?_) | (with_reducible refine condW_split ?_ ?_ <;> intro hc <;> (try simp only [push_cast] at hc)) | (with_reducible refine guardW_split ?_ ?_ <;> intro hc <;> (try simp only [push_cast] at hc)) | omega | (with_reducible intro _)))
       rw [hr, bind_at (by omega), if_neg ‹_›, if_neg (by rintro ⟨h1, h2, h3⟩; first | omega | (rw [‹valB (nth t.parts k) (nth w (nth t.parts k).at_.toNat) = false›] at h3; cases h3))]; done)
    | (rw [List.drop_of_length_le (by omega), bindF] at hr; simp only [bindT, hr]; done)
    | trace_state
theorem partsEq_at {l m : List Part} {k : Nat} (h1 : k < l.length) (h2 : k < m.length) : decide (l.drop k = m.drop k) = (decide (nth l k = nth m k) && decide (l.drop (k + 1) = m.drop (k + 1))) := by
  rw [drop_at h1, drop_at h2]
  simp
theorem part_eq_iff (p q : Part) : (decide (p.at_ = q.at_) && (decide (p.drop = q.drop) && (decide (p.take = q.take) && decide (p.up = q.up)))) = decide (p = q) := by
  cases p; cases q; simp
def greatB (t : Term) (l : List (List Span)) : Bool := decide (20 < t.parts.length) || decide (20 < l.length) || l.any fun g => decide (50 < g.length)
theorem any_at {l : List (List Span)} {k : Nat} (h : k < l.length) : (l.drop k).any (fun g => decide (50 < g.length)) = (decide (50 < (nth l k).length) || (l.drop (k + 1)).any fun g => decide (50 < g.length)) := by rw [drop_at h, List.any_cons]
theorem law_great (t : Term) (l : List (List Span)) : PC Try.prog 13 [termV t, guardsV l] (.bool (greatB t l)) := by
  refine pc_w' c_law04_great ?_
  unfold B_law04_great
  (repeat' (first | (simp (disch := omega) only [push_cast, ↓zz, seval]) | (with_reducible refine And.intro ?_ ?_) | (with_reducible refine condW_split ?_ ?_ <;> intro hc <;> (try simp only [push_cast] at hc)) | (with_reducible refine guardW_split ?_ ?_ <;> intro hc <;> (try simp only [push_cast] at hc)) | omega | (with_reducible intro _)))
  · have : 20 < l.length := by omega
    simp [greatB, this]
  · have h1 : ¬ 20 < t.parts.length := by omega
    have h2 : ¬ 20 < l.length := by omega
    have hg : greatB t l = l.any fun g => decide (50 < g.length) := by simp [greatB, h1, h2]
    rw [hg]
    refine LoopK_T (T_loopR (fun (k : Nat) => k ≤ l.length ∧ (l.any fun g => decide (50 < g.length)) = (l.drop k).any fun g => decide (50 < g.length)) (fun k => l.length - k)
      (fun k => [(1, guardsV l), (5, .int .i64 k)]) (fun s => []) (fun env _ => []) 0 (by simp) ?_ ?_)
    · (repeat' (first | (simp (disch := omega) only [push_cast, ↓zz, seval]) | (with_reducible refine And.intro ?_ ?_) | (with_reducible refine condW_split ?_ ?_ <;> intro hc <;> (try simp only [push_cast] at hc)) | (with_reducible refine guardW_split ?_ ?_ <;> intro hc <;> (try simp only [push_cast] at hc)) | omega | (with_reducible intro _)))
    rintro k ⟨hk, hr⟩
    refine W_T ?_
    (repeat' (first | (simp (disch := omega) only [push_cast, ↓zz, seval]) | (with_reducible refine And.intro ?_ ?_) | (with_reducible refine condW_split ?_ ?_ <;> intro hc <;> (try simp only [push_cast] at hc)) | (with_reducible refine guardW_split ?_ ?_ <;> intro hc <;> (try simp only [push_cast] at hc)) | omega | (with_reducible intro _)))
    · rw [hr, any_at (by omega)]
      have : 50 < (nth l k).length := by omega
      simp [this]
    · refine ⟨k + 1, ?_⟩
      (repeat' (first | (simp (disch := omega) only [push_cast, ↓zz, seval]) | (with_reducible refine And.intro ?_ ?_) | (with_reducible refine condW_split ?_ ?_ <;> intro hc <;> (try simp only [push_cast] at hc)) | (with_reducible refine guardW_split ?_ ?_ <;> intro hc <;> (try simp only [push_cast] at hc)) | omega | (with_reducible intro _)))
      rw [hr, any_at (by omega)]
      have : ¬ 50 < (nth l k).length := by omega
      simp [this]
    · rw [hr, List.drop_of_length_le (by omega)]; rfl
  · have : 20 < t.parts.length := by omega
    simp [greatB, this]
end Go.Proofs.Ytdjbcenfgceejaa
set_option linter.unusedSimpArgs false
set_option linter.unusedVariables false
namespace Go.Proofs.Ytdjbcenfgceejaa
open Abs
abbrev wr (n : Int) : Int := IntKind.i64.wrap n
theorem wr_eq (n : Int) : wr n = (n + 9223372036854775808) % 18446744073709551616 - 9223372036854775808 := by
  show IntKind.i64.wrap n = _
  rw [IntWalk.i64_left]
  unfold RowKit.wrap64
  rfl
theorem wr_in {n : Int} (h : -9223372036854775808 ≤ n ∧ n ≤ 9223372036854775807) : wr n = n := by rw [wr_eq]; omega
theorem wr_wr (a b : Int) : wr (wr a + b) = wr (a + b) := by rw [wr_eq, wr_eq a, wr_eq (a + b)]; omega
theorem wr_bd (a : Int) : -9223372036854775808 ≤ wr a ∧ wr a ≤ 9223372036854775807 := by rw [wr_eq]; omega
def totP (w : List Int) : List Part → Int
  | [] => 0
  | p :: l => val1 p (nth w p.at_.toNat) + totP w l
def rightsL (w : List Int) (l : List Part) : Bool := l.all fun p => rightB p w.length
theorem sum_tot (w : List Int) : ∀ (l : List Part) (a : Int), wr a = a → sumP w l a = if rightsL w l then some (wr (a + totP w l)) else none
  | [], a, h => by simp [sumP, rightsL, totP, h]
  | p :: l, a, h => by
    rw [sumP]
    cases hp : rightB p w.length
    · simp [rightsL, hp]
    · have ih := sum_tot w l (wr (a + val1 p (nth w p.at_.toNat))) (by rw [wr_in (wr_bd _)])
      rw [if_pos rfl]
      have e : wr (wr (a + val1 p (nth w p.at_.toNat)) + totP w l) = wr (a + totP w (p :: l)) := by rw [wr_wr, totP]; congr 1; omega
      rw [e] at ih
      simp only [rightsL, List.all_cons, hp, Bool.true_and] at ih ⊢
      exact ih
theorem value_some {t : Term} {w : List Int} {v : Int} (h : valueT t w = some v) : w.all symB = true ∧ ∃ s, sumP w t.parts t.sum = some s ∧ valB t.outer s = true ∧ s ≤ 1114111 ∧ v = wr (t.base + valP t.outer s) := by
  unfold valueT at h
  split at h
  · rename_i hw
    split at h
    · rename_i s hs
      split at h
      · rename_i hc
        simp only [Bool.and_eq_true, decide_eq_true_eq] at hc
        cases h
        exact ⟨hw, s, hs, hc.1, hc.2, rfl⟩
      · cases h
    · cases h
  · cases h
theorem whole_val {p : Part} {x : Int} (h : wholeB p = true) (hx : 0 ≤ x ∧ x ≤ 2097151) : bitsB p = true ∧ valB p x = true ∧ valP p x = x := by
  simp only [wholeB, decide_eq_true_eq] at h
  obtain ⟨h1, h2, h3⟩ := h
  have hb : bitsB p = true := by simp [bitsB, h1, h2, h3]
  refine ⟨hb, (val_yes hb hx).1, ?_⟩
  rw [valP, h1, h2, h3]
  show x / 2 ^ 0 % 2 ^ 21 * 2 ^ 0 = x
  omega
theorem plain_spec {t : Term} (h : plainB t = true) : t.base = 0 ∧ wholeB t.outer = true := by
  simp only [plainB, decide_eq_true_eq] at h
  obtain ⟨h0, h1, h2, h3⟩ := h
  exact ⟨h0, by simp [wholeB, h1, h2, h3]⟩
theorem valB_spec {p : Part} {x : Int} (h : valB p x = true) : bitsB p = true ∧ 0 ≤ x ∧ x ≤ 2097151 := by
  simp only [valB, Bool.and_eq_true, decide_eq_true_eq] at h
  exact h
end Go.Proofs.Ytdjbcenfgceejaa
set_option linter.unusedSimpArgs false
set_option linter.unusedVariables false
namespace Go.Proofs.Ytdjbcenfgceejaa
open Abs Go.RowKit
abbrev shI : Sh := .int .i64
abbrev shSpans : Sh := .sl true [shI, shI]
abbrev shGuards : Sh := .sl false [shSpans]
abbrev shRunes : Sh := .sl false [.int .i32]
abbrev shParts : Sh := .sl true [shI, shI, shI, shI]
abbrev shTermL : List Sh := [shI, shI, shI, shI, shI, shParts]
theorem wf_i32 {n : Int} (h : (Lit.int .i32 n).wf = true) : -2147483648 ≤ n ∧ n ≤ 2147483647 := by
  simpa [Lit.wf, IntKind.min, IntKind.max, IntKind.signed, IntKind.bits] using h
theorem is_list {α : Type} {agg : Bool} {fs : List Sh} {x : AV} (f : α → AV) (Q : α → Prop) (hp : ∀ l : List α, pureL (l.map f) = true) (hpos : 0 < fs.length)
    (he : ∀ cs, IsL fs cs → ∃ a, AV.le (if agg then .agg cs else cs.headD .any) (f a) ∧ Q a) (h : Is (.sl agg fs) x) : ∃ l : List α, AV.le x (.lst fs.length (l.map f)) ∧ l.length ≤ maxLen ∧ ∀ a ∈ l, Q a := by
  rcases h with rfl | ⟨xs, rfl, hl, hx⟩
  · exact ⟨[], AV.le_nilS hpos, Nat.zero_le _, fun _ h => by cases h⟩
  · have key : ∀ xs : List AV, (∀ y ∈ xs, ∃ cs, y = (if agg then AV.agg cs else cs.headD .any) ∧ IsL fs cs) → ∃ l : List α, l.length = xs.length ∧ leL xs (l.map f) ∧ ∀ a ∈ l, Q a := by
      intro xs
      induction xs with
      | nil => intro _; exact ⟨[], rfl, leL_nil, fun _ h => by cases h⟩
      | cons y r ih =>
        intro hy
        obtain ⟨l, h1, h2, h3⟩ := ih fun z hz => hy z (List.mem_cons_of_mem _ hz)
        obtain ⟨cs, rfl, hcs⟩ := hy y (List.mem_cons_self ..)
        obtain ⟨a, h4, h5⟩ := he cs hcs
        refine ⟨a :: l, by simp [h1], leL_cons h4 h2, fun b hb => ?_⟩
        rcases List.mem_cons.1 hb with rfl | hb
        · exact h5
        · exact h3 b hb
    obtain ⟨l, h1, h2, h3⟩ := key xs hx
    exact ⟨l, AV.le_lst (by simp [h1]) (hp l) h2, by rw [h1]; exact hl, h3⟩
def i64s (l : List Int) : Prop := ∀ n ∈ l, (Lit.int .i64 n).wf = true
theorem is_ints {k : IntKind} {x : AV} (h : Is (.sl false [.int k]) x) : ∃ l : List Int, AV.le x (.lst 1 (l.map (AV.int k))) ∧ l.length ≤ maxLen ∧ ∀ n ∈ l, (Lit.int k n).wf = true :=
  is_list (fs := [.int k]) (AV.int k) (fun n => (Lit.int k n).wf = true) (pure_int k) (by simp) (fun cs h => by
    obtain ⟨_, _, rfl, ⟨n, rfl, h3⟩, _⟩ := h
    exact ⟨n, AV.le_refl _, h3⟩) h
def spanOk (s : Span) : Prop := i64s [s.lo, s.hi]
theorem is_spans {x : AV} (h : Is shSpans x) : ∃ l : List Span, AV.le x (spansV l) ∧ l.length ≤ maxLen ∧ ∀ s ∈ l, spanOk s :=
  is_list spanV spanOk pure_spans (by decide) (fun cs h => by
    obtain ⟨_, _, rfl, ⟨a, rfl, ha⟩, _, _, rfl, ⟨b, rfl, hb⟩, rfl⟩ := h
    exact ⟨⟨a, b⟩, AV.le_refl _, by simp [spanOk, i64s, ha, hb]⟩) h
theorem is_guards {x : AV} (h : Is shGuards x) : ∃ l : List (List Span), AV.le x (guardsV l) ∧ l.length ≤ maxLen ∧ ∀ g ∈ l, g.length ≤ maxLen ∧ ∀ s ∈ g, spanOk s :=
  is_list spansV (fun g => g.length ≤ maxLen ∧ ∀ s ∈ g, spanOk s) pure_guards (by decide) (fun cs h => by
    obtain ⟨c, _, rfl, hc, _⟩ := h
    obtain ⟨l, h1, h2, h3⟩ := is_spans hc
    exact ⟨l, h1, h2, h3⟩) h
def partOk (p : Part) : Prop := i64s [p.at_, p.drop, p.take, p.up]
theorem is_parts {x : AV} (h : Is shParts x) : ∃ l : List Part, AV.le x (partsV l) ∧ l.length ≤ maxLen ∧ ∀ s ∈ l, partOk s :=
  is_list partV partOk pure_parts (by decide) (fun cs h => by
    obtain ⟨_, _, rfl, ⟨a, rfl, ha⟩, _, _, rfl, ⟨b, rfl, hb⟩, _, _, rfl, ⟨c, rfl, hc⟩, _, _, rfl, ⟨d, rfl, hd⟩, rfl⟩ := h
    exact ⟨⟨a, b, c, d⟩, AV.le_refl _, by simp [partOk, i64s, ha, hb, hc, hd]⟩) h
def termOk (t : Term) : Prop := i64s [t.base, t.drop, t.take, t.up, t.sum] ∧ t.parts.length ≤ maxLen ∧ ∀ p ∈ t.parts, partOk p
theorem is_termL {cs : List AV} (h : IsL shTermL cs) : ∃ t : Term, AV.le (.agg cs) (termV t) ∧ termOk t := by
  obtain ⟨_, _, rfl, ⟨a, rfl, ha⟩, _, _, rfl, ⟨b, rfl, hb⟩, _, _, rfl, ⟨c, rfl, hc⟩, _, _, rfl, ⟨d, rfl, hd⟩, _, _, rfl, ⟨e, rfl, he⟩, x, _, rfl, hx, rfl⟩ := h
  obtain ⟨l, h1, h2, h3⟩ := is_parts hx
  exact ⟨⟨a, b, c, d, e, l⟩, AV.le_agg (leL_cons (AV.le_refl _) (leL_cons (AV.le_refl _) (leL_cons (AV.le_refl _) (leL_cons (AV.le_refl _) (leL_cons (AV.le_refl _) (leL_cons h1 leL_nil)))))), by simp [i64s, ha, hb, hc, hd, he], h2, h3⟩
theorem is_term {x : AV} (h : IsP (.rcd shTermL) x) : ∃ t : Term, AV.le x (termV t) ∧ termOk t := by
  obtain ⟨cs, rfl, hc⟩ := h
  exact is_termL hc
end Go.Proofs.Ytdjbcenfgceejaa
set_option linter.unusedSimpArgs false
set_option linter.unusedVariables false
namespace Go.Proofs.Ytdjbcenfgceejaa
open Abs
def exT : Term := ⟨0, 0, 21, 0, 0, [⟨1, 0, 6, 0⟩, ⟨0, 0, 5, 6⟩]⟩
theorem ex_value : valueT exT [195, 188] = some 252 := by decide
theorem ex_put : putT ⟨0, 0, 21, 0, 1, [⟨0, 0, 21, 0⟩]⟩ ⟨0, 0, 21, 0, 97, []⟩ = some ⟨0, 0, 21, 0, 98, []⟩ := by decide
theorem ex_right : rightT exT 1 2 2 = true := by decide
theorem law_awake : PC Try.prog 14 [] (.bool true) := by
  have h1 := term_Value exT [195, 188] (by decide) (by decide) (by decide)
  rw [ex_value] at h1
  simp only [exT] at h1
  have h2 := term_Put ⟨0, 0, 21, 0, 1, [⟨0, 0, 21, 0⟩]⟩ ⟨0, 0, 21, 0, 97, []⟩ (by decide)
  rw [ex_put] at h2
  have h3 := term_Right exT 1 2 2 (by decide)
  rw [ex_right] at h3
  simp only [exT] at h3
  have h4 := term_Const 97
  rw [IntWalk.i64_in 97 (by decide)] at h4
  refine pc_w' c_law04_awake ?_
  unfold B_law04_awake
  (repeat' (first | (simp (disch := omega) only [push_cast, ↓zz, seval]) | (with_reducible refine And.intro ?_ ?_) | (with_reducible refine condW_split ?_ ?_ <;> intro hc <;> (try simp only [push_cast] at hc)) | (with_reducible refine guardW_split ?_ ?_ <;> intro hc <;> (try simp only [push_cast] at hc)) | ((with_reducible first | refine eK h1 ?_ | refine eQ h1 ?_ | refine eG h1 ?_)) | ((with_reducible first | refine eK h2 ?_ | refine eQ h2 ?_ | refine eG h2 ?_)) | ((with_reducible first | refine eK h3 ?_ | refine eQ h3 ?_ | refine eG h3 ?_)) | (have q_ := term_Copy 0 1; (with_reducible first | refine eK q_ ?_ | refine eQ q_ ?_ | refine eG q_ ?_); clear q_) | ((with_reducible first | refine eK h4 ?_ | refine eQ h4 ?_ | refine eG h4 ?_)) | ((with_reducible first | refine cK h1 ?_ | refine cQ h1 ?_ | refine cG h1 ?_); (simp (disch := omega) only [push_cast, ↓zz, seval]); (fail_if_success (with_reducible change False))) | ((with_reducible first | refine cK h2 ?_ | refine cQ h2 ?_ | refine cG h2 ?_); (simp (disch := omega) only [push_cast, ↓zz, seval]); (fail_if_success (with_reducible change False))) | ((with_reducible first | refine cK h3 ?_ | refine cQ h3 ?_ | refine cG h3 ?_); (simp (disch := omega) only [push_cast, ↓zz, seval]); (fail_if_success (with_reducible change False))) | (have q_ := term_Copy 0 1; (with_reducible first | refine cK q_ ?_ | refine cQ q_ ?_ | refine cG q_ ?_); clear q_; (simp (disch := omega) only [push_cast, ↓zz, seval]); (fail_if_success (with_reducible change False))) | ((with_reducible first | refine cK h4 ?_ | refine cQ h4 ?_ | refine cG h4 ?_); (simp (disch := omega) only [push_cast, ↓zz, seval]); (fail_if_success (with_reducible change False))) | omega | (with_reducible intro _)))
  all_goals trace_state
end Go.Proofs.Ytdjbcenfgceejaa
set_option linter.unusedSimpArgs false
set_option linter.unusedVariables false
namespace Go.Proofs.Ytdjbcenfgceejaa
open Abs
theorem some_get {o : Option Int} (h : o.isSome = true) : o = some (o.getD 0) := by cases o <;> simp_all
end Go.Proofs.Ytdjbcenfgceejaa
namespace Go.Proofs.Ytdjbcenfgceejaa.Abs
section
variable {P : Program} {n b : Nat} {Q : Ex → Env → AHeap → Prop}
def Rounds (P : Program) (n b : Nat) (c : AC) (Q : Ex → Env → AHeap → Prop) : Nat → Env → AHeap → Prop
  | 0, _, _ => False
  | m + 1, env, H => T P n b c env H (Ex.then (Rounds P n b c Q m) Q)
theorem rounds_in {c : AC} {d : Code} (hd : compC P n d = some c) {rd : Option Nat} {mm : Nat} (hrd : c.free = true ∨ rd = none) {S0 : MS} : ∀ (m : Nat) (env : Env) (H : AHeap) (S : MS) (a : Act), BEvo b S0 S → SRel S H → FRel S n env a → Rounds P n b c Q m env H →
    Code.roundsIn (fen rd) mm P d (After S0 n b Q) m a S.w
  | 0, _, _, _, _, _, _, _, h => h.elim
  | m + 1, env, H, S, a, e0, hS, hF, h => by
    rw [Code.roundsIn]
    refine wpIn_mono (h rd mm hrd d hd S a e0.n hS hF) fun e a' w' hh => ?_
    obtain ⟨S2, env2, H2, z, rfl, e2, hS2, hF2, rfl, hq⟩ := hh
    cases z with
    | normal => exact rounds_in hd hrd m env2 H2 S2 a' (e0.trans e2) hS2 hF2 hq
    | exit id => exact ⟨S2, env2, H2, .exit id, rfl, e0.trans e2, hS2, hF2, rfl, hq⟩
    | ret => exact ⟨S2, env2, H2, .ret, rfl, e0.trans e2, hS2, hF2, rfl, hq⟩
theorem T_rounds {c : AC} {env : Env} {H : AHeap} (m : Nat) (h : Rounds P n b c Q m env H) : T P n b (.loop c) env H Q := T_of fun rd mm hrd code hc hs S a hb hS hF => by
  cases code <;> simp only [compC, reduceCtorEq, Option.some.injEq] at hc
  case loop d =>
    obtain ⟨x, hx, hh⟩ := Option.map_eq_some_iff.1 hc
    cases hh
    exact wpIn_loop_rounds m (rounds_in hx hrd m env H S a (.refl hb) hS hF h)
  case region => exact absurd hc compReg_ne
  case seq => split at hc <;> cases hc
  case cond => split at hc <;> cases hc
  case block => obtain ⟨_, _, h⟩ := Option.map_eq_some_iff.1 hc; cases h
  case rangeFunc => split at hc <;> cases hc
  case scope d => exact absurd rfl (hs d)
theorem LoopK_rounds {c : AC} {env : Env} {H : AHeap} (m : Nat) (h : W P n b c env H (Ex.then (Rounds P n b c Q m) Q)) : @LoopK ⟨T P n b (.loop c) env H Q⟩ := T_rounds (m + 1) (W_T h)
theorem LoopK_head {c : AC} {env : Env} {H : AHeap} (m : Nat) (srcs : Env → List Src) (live : List (Nat × AV)) (heap : List Grp) (he : Head b env H (srcs env) live heap) (h : W P n b c (mkEnv live) (hl heap) (Ex.then (Rounds P n b c Q m) Q)) : @LoopK ⟨T P n b (.loop c) env H Q⟩ := T_head he (T_rounds (m + 1) (W_T h))
theorem Rounds_next {c : AC} {env : Env} {H : AHeap} {m : Nat} (h : W P n b c env H (Ex.then (Rounds P n b c Q m) Q)) : Rounds P n b c Q (m + 1) env H := W_T h
end
theorem vs_split {S : MS} : ∀ {xs ys : List AV} {vs : List Value}, VsRel S (xs ++ ys) vs → ∃ v1 v2, vs = v1 ++ v2 ∧ VsRel S xs v1
  | [], ys, vs, h => ⟨[], vs, rfl, rfl⟩
  | x :: xs, ys, vs, h => by
    obtain ⟨v, r, rfl, h1, h2⟩ := h
    obtain ⟨v1, v2, rfl, h3⟩ := vs_split (xs := xs) (ys := ys) h2
    exact ⟨v :: v1, v2, rfl, v, v1, rfl, h1, h3⟩
theorem srel_trunc {S : MS} {w v : Nat} {ex : Bool} {xs ys : List AV} (hw : 0 < w) (hS : SRel S (hl [⟨w, v, ex, xs ++ ys⟩])) : SRel S (hl [⟨w, v, false, xs⟩]) := by
  have h0 : GRel S ⟨w, v, ex, xs ++ ys⟩ 0 := hS.grp 0 (by show 0 < 1; omega)
  have hg : GRel S ⟨w, v, false, xs⟩ 0 := by
    refine ⟨h0.ver, h0.wid, fun _ hc => ?_, fun _ => ?_, fun _ h => (by cases h), fun h => ?_⟩
    · obtain ⟨⟨cells, TT, vs, a1, a2, a3, a4⟩, a5⟩ := h0.live hw hc
      obtain ⟨v1, v2, rfl, h1⟩ := vs_split a3
      refine ⟨⟨cells, TT, v1, a1, a2, h1, fun i u hu => a4 i u ?_⟩, a5⟩
      obtain ⟨hl1, _⟩ := List.getElem?_eq_some_iff.1 hu
      rw [List.getElem?_append_left hl1]; exact hu
    · have := h0.len hw
      simp only [List.length_append] at this
      show xs.length ≤ _
      omega
    · simp only at h; omega
  refine ⟨hS.n, fun g hg' => ?_, fun g g' a c hne => ?_, hS.im⟩
  · have hz : g < 1 := hg'
    obtain rfl : g = 0 := by omega
    exact hg
  · have a' : g < 1 := a
    have c' : g' < 1 := c
    omega
theorem acalls_trunc {P : Program} {f : Nat} {args : List AV} {H : AHeap} {w v : Nat} {ex : Bool} {xs : List AV} {y0 : AV} (hw : 0 < w) (h : ACalls P f args H fun y H' => ∃ ys, y = y0 ∧ H' = hl [⟨w, v, ex, xs ++ ys⟩]) : ACalls P f args H fun y H' => y = y0 ∧ H' = hl [⟨w, v, false, xs⟩] :=
  ⟨h.1, fun S cargs hS hx => (h.2 S cargs hS hx).mono fun e w' hh => by
    obtain ⟨v, S1, y, H', he, hw', ev, hS1, hv, ys, rfl, rfl⟩ := hh
    exact ⟨v, S1, _, _, he, hw', ev, srel_trunc hw hS1, hv, rfl, rfl⟩⟩
theorem at_give {P : Program} {f : Nat} {xs ys : List AV} {l : List Grp} {K : AV → AHeap → Prop} (h1 : okA 4 ((hl l).only (grpsOf xs)) xs) (h2 : leSL [] (frA 4 ((hl l).only (grpsOf xs)) xs) ys) (h3 : @CallK P f ys (hl (killL 0 (grpsOf xs) l)) ⟨K⟩) : @CallK P f xs (hl l) ⟨K⟩ :=
  acalls_frz 4 (grpsOf xs) (okA_mem h1) (acalls_le (leSL_le h2) h3)
def SameBut (i : Nat) (ks : List Nat) : List Grp → List Grp → Prop
  | [], _ => True
  | _ :: _, [] => False
  | G :: l, G' :: l' => (i ∈ ks ∨ G = G') ∧ SameBut (i + 1) ks l l'
theorem SameBut.of {ks : List Nat} : ∀ {i : Nat} {l l' : List Grp}, SameBut i ks l l' → l.length ≤ l'.length ∧ ∀ g, i + g ∉ ks → g < l.length → l'.getD g default = l.getD g default
  | _, [], _, _ => ⟨by simp, fun g _ h => absurd h (by simp)⟩
  | _, _ :: _, [], h => h.elim
  | i, G :: l, G' :: l', h => by
    obtain ⟨h1, h2⟩ := SameBut.of h.2
    refine ⟨by simpa using h1, fun g hg hl => ?_⟩
    cases g with
    | zero =>
      rcases h.1 with h3 | h3
      · exact absurd h3 hg
      · simp [h3]
    | succ g =>
      have := h2 g (by rwa [show i + 1 + g = i + (g + 1) by omega]) (by simpa using hl)
      simpa using this
def effB (ks : List Nat) : AK → List Grp → List Grp → Prop
  | .app .., l, l' => SameBut 0 ks l l'
  | .mkMap, l, l' => SameBut 0 ks l l'
  | .mapSet, l, l' => SameBut 0 ks l l'
  | _, _, _ => True
theorem effB_of {ks : List Nat} {k : AK} {l l' : List Grp} (h : effB ks k l l') (h2 : k.eff = some 2) : l.length ≤ l'.length ∧ ∀ g, g ∉ ks → g < l.length → l'.getD g default = l.getD g default := by
  have key : SameBut 0 ks l l' := by cases k <;> first | exact h | (simp [AK.eff] at h2)
  obtain ⟨a, c⟩ := key.of
  exact ⟨a, fun g hg => c g (by simpa using hg)⟩
def xk (P : Program) (ks : List Nat) : List Bool → List AOp → Env → List Grp → (Env → List Grp → Prop) → Prop
  | _, [], env, l, K => K env l
  | fl, ⟨dst, args, none, k⟩ :: r, env, l, K => (fl.headD false = true → onRefs (· ∉ ks) (args.map (·.eval env))) ∧ @opG P k l (args.map (·.eval env)) ⟨fun x l' => effB ks k l l' ∧ xk P ks fl.tail r (env.put dst x) l' K⟩
  | fl, ⟨dst, args, some (d, want), k⟩ :: r, env, l, K => @guardW (env d) want
      ⟨(fl.headD false = true → onRefs (· ∉ ks) (args.map (·.eval (env.put (some d) (.bool want))))) ∧ @opG P k l (args.map (·.eval (env.put (some d) (.bool want)))) ⟨fun x l' => effB ks k l l' ∧ xk P ks fl.tail r ((env.put (some d) (.bool want)).put dst x) l' K⟩⟩
      ⟨xk P ks fl.tail r ((env.put (some d) (.bool (!want))).put dst (.tup [])) l K⟩ ⟨xk P ks fl.tail r (env.put dst (.tup [])) l K⟩
theorem xk_run (P : Program) (ks : List Nat) : ∀ (L : List AOp) (fl : List Bool) (env : Env) (l : List Grp) {K : Env → List Grp → Prop}, xk P ks fl L env l K → runX P ks fl L env l K
  | [], _, _, _, _, h => h
  | ⟨dst, args, none, k⟩ :: r, fl, env, l, K, h => by
    obtain ⟨h0, h'⟩ := h
    have := opG_run h'
    simp only [runX, guardK, AOp.vals, if_true]
    split at this
    · rename_i he
      rw [if_pos he]
      obtain ⟨x, h1, h2⟩ := this
      exact ⟨h0, x, h1, xk_run P ks r _ _ _ h2.2⟩
    · rename_i he
      rw [if_neg he]
      obtain ⟨x, l', b1, b2, b3⟩ := this
      exact ⟨x, l', b1, b2, effB_of b3.1, h0, xk_run P ks r _ _ _ b3.2⟩
  | ⟨dst, args, some (d, want), k⟩ :: r, fl, env, l, K, h => by
    have h' : guardV (env d) want ((fl.headD false = true → onRefs (· ∉ ks) (args.map (·.eval (env.put (some d) (.bool want))))) ∧ @opG P k l (args.map (·.eval (env.put (some d) (.bool want)))) ⟨fun x l' => effB ks k l l' ∧ xk P ks fl.tail r ((env.put (some d) (.bool want)).put dst x) l' K⟩)
      (xk P ks fl.tail r ((env.put (some d) (.bool (!want))).put dst (.tup [])) l K) (xk P ks fl.tail r (env.put dst (.tup [])) l K) := h
    simp only [runX, guardK, AOp.vals, if_true, Bool.false_eq_true, if_false]
    refine guardV_mono (fun h1 => ?_) (fun h1 => xk_run P ks r _ _ _ h1) (fun h1 => xk_run P ks r _ _ _ h1) h'
    obtain ⟨h0, h1⟩ := h1
    have := opG_run h1
    split at this
    · rename_i he
      obtain ⟨x, h1, h2⟩ := this
      rw [if_pos he]
      exact ⟨h0, x, h1, xk_run P ks r _ _ _ h2.2⟩
    · rename_i he
      rw [if_neg he]
      obtain ⟨x, l', b1, b2, b3⟩ := this
      exact ⟨x, l', b1, b2, effB_of b3.1, h0, xk_run P ks r _ _ _ b3.2⟩
section
variable {P : Program} {n b : Nat} {Q : Ex → Env → AHeap → Prop} {ks : List Nat} {env : Env} {l : List Grp} {K : Env → List Grp → Prop} {fl : List Bool} {r : List AOp} {dst : Option Nat} {args : List AArg} {k : AK}
theorem LoopK_X {L : List AOp} (ks : List Nat) (h : xk P ks fl L env l fun env' l' => Q .normal env' (hl l')) : @LoopK ⟨T P n b (.grx fl L) env (hl l) Q⟩ := T_grx ks (xk_run P ks L fl env l h)
theorem guardW_congr {x : AV} {w : Bool} {p p2 q s : HP} (h : p.p = p2.p) : @guardW x w p q s = @guardW x w p2 q s := by cases p; cases p2; cases h; rfl
theorem xk1 : xk P ks fl [] env l K = K env l := by cases fl <;> rfl
theorem xk2 : xk P ks (false :: fl) (⟨dst, args, none, k⟩ :: r) env l K = @opG P k l (args.map (·.eval env)) ⟨fun x l' => effB ks k l l' ∧ xk P ks fl r (env.put dst x) l' K⟩ := propext ⟨fun h => h.2, fun h => ⟨fun h0 => (by cases h0), h⟩⟩
theorem xk3 : xk P ks (true :: fl) (⟨dst, args, none, k⟩ :: r) env l K = (onRefs (· ∉ ks) (args.map (·.eval env)) ∧ @opG P k l (args.map (·.eval env)) ⟨fun x l' => effB ks k l l' ∧ xk P ks fl r (env.put dst x) l' K⟩) := propext ⟨fun h => ⟨h.1 rfl, h.2⟩, fun h => ⟨fun _ => h.1, h.2⟩⟩
theorem xk4 {d : Nat} {want : Bool} : xk P ks (false :: fl) (⟨dst, args, some (d, want), k⟩ :: r) env l K = @guardW (env d) want
      ⟨@opG P k l (args.map (·.eval (env.put (some d) (.bool want)))) ⟨fun x l' => effB ks k l l' ∧ xk P ks fl r ((env.put (some d) (.bool want)).put dst x) l' K⟩⟩
      ⟨xk P ks fl r ((env.put (some d) (.bool (!want))).put dst (.tup [])) l K⟩ ⟨xk P ks fl r (env.put dst (.tup [])) l K⟩ := guardW_congr (propext ⟨fun h => h.2, fun h => ⟨fun h0 => (by cases h0), h⟩⟩)
theorem xk5 {d : Nat} {want : Bool} : xk P ks (true :: fl) (⟨dst, args, some (d, want), k⟩ :: r) env l K = @guardW (env d) want
      ⟨onRefs (· ∉ ks) (args.map (·.eval (env.put (some d) (.bool want)))) ∧ @opG P k l (args.map (·.eval (env.put (some d) (.bool want)))) ⟨fun x l' => effB ks k l l' ∧ xk P ks fl r ((env.put (some d) (.bool want)).put dst x) l' K⟩⟩
      ⟨xk P ks fl r ((env.put (some d) (.bool (!want))).put dst (.tup [])) l K⟩ ⟨xk P ks fl r (env.put dst (.tup [])) l K⟩ := guardW_congr (propext ⟨fun h => ⟨h.1 rfl, h.2⟩, fun h => ⟨fun _ => h.1, h.2⟩⟩)
variable {l2 : List Grp}
theorem xk6 {w s : Nat} {z : AV} : effB ks (.app w s z) l l2 = SameBut 0 ks l l2 := rfl
theorem xk7 : effB ks .mapSet l l2 = SameBut 0 ks l l2 := rfl
theorem xk8 : effB ks .mkMap l l2 = SameBut 0 ks l l2 := rfl
theorem xe_mv  : effB ks (.mv ) l l2 = True := rfl
theorem xe_pick  : effB ks (.pick ) l l2 = True := rfl
theorem xe_alloc {a0 : AV} {a1 : Nat} : effB ks (.alloc a0 a1) l l2 = True := rfl
theorem xe_box  : effB ks (.box ) l l2 = True := rfl
theorem xe_build {a0 : List AV} {a1 : List (Nat × Nat)} {a2 : List Nat} : effB ks (.build a0 a1 a2) l l2 = True := rfl
theorem xe_bslice {a0 : Nat} {a1 : Nat} {a2 : AV} {a3 : List Nat} : effB ks (.bslice a0 a1 a2 a3) l l2 = True := rfl
theorem xe_load {a0 : Bool} {a1 : Nat} : effB ks (.load a0 a1) l l2 = True := rfl
theorem xe_store {a0 : Nat} : effB ks (.store a0) l l2 = True := rfl
theorem xe_nilCheck  : effB ks (.nilCheck ) l l2 = True := rfl
theorem xe_bin {a0 : BinOp} : effB ks (.bin a0) l l2 = True := rfl
theorem xe_eqb {a0 : Bool} : effB ks (.eqb a0) l l2 = True := rfl
theorem xe_eqs {a0 : Bool} {a1 : List Nat} : effB ks (.eqs a0 a1) l l2 = True := rfl
theorem xe_eqn {a0 : Bool} : effB ks (.eqn a0) l l2 = True := rfl
theorem xe_un {a0 : UnOp} : effB ks (.un a0) l l2 = True := rfl
theorem xe_conv {a0 : IntKind} : effB ks (.conv a0) l l2 = True := rfl
theorem xe_toStr  : effB ks (.toStr ) l l2 = True := rfl
theorem xe_slice {a0 : Nat} {a1 : Bool} {a2 : Bool} {a3 : Bool} : effB ks (.slice a0 a1 a2 a3) l l2 = True := rfl
theorem xe_faddr {a0 : Bool} {a1 : Nat} {a2 : Nat} : effB ks (.faddr a0 a1 a2) l l2 = True := rfl
theorem xe_field {a0 : Bool} {a1 : Nat} {a2 : Nat} : effB ks (.field a0 a1 a2) l l2 = True := rfl
theorem xe_iaddr {a0 : Nat} : effB ks (.iaddr a0) l l2 = True := rfl
theorem xe_iaddrA {a0 : Nat} {a1 : Nat} {a2 : Bool} : effB ks (.iaddrA a0 a1 a2) l l2 = True := rfl
theorem xe_index {a0 : Nat} {a1 : Nat} {a2 : Bool} : effB ks (.index a0 a1 a2) l l2 = True := rfl
theorem xe_indexStr  : effB ks (.indexStr ) l l2 = True := rfl
theorem xe_extract {a0 : Nat} : effB ks (.extract a0) l l2 = True := rfl
theorem xe_len {a0 : Bool} : effB ks (.len a0) l l2 = True := rfl
theorem xe_max  : effB ks (.max ) l l2 = True := rfl
theorem xe_min  : effB ks (.min ) l l2 = True := rfl
theorem xe_mkSlice {a0 : Nat} {a1 : Nat} {a2 : AV} : effB ks (.mkSlice a0 a1 a2) l l2 = True := rfl
theorem xe_mkFunc {a0 : Nat} : effB ks (.mkFunc a0) l l2 = True := rfl
theorem xe_mapGet {a0 : AV} : effB ks (.mapGet a0) l l2 = True := rfl
theorem xe_call  : effB ks (.call ) l l2 = True := rfl
theorem sb1 {i : Nat} : SameBut i ks [] l = True := rfl
theorem sb2 {i : Nat} {G G2 : Grp} : SameBut i ks (G :: l) (G2 :: l2) = ((i ∈ ks ∨ G = G2) ∧ SameBut (i + 1) ks l l2) := rfl
end
theorem xx : type_of% (And.intro @xk1 <| And.intro @xk2 <| And.intro @xk3 <| And.intro @xk4 <| And.intro @xk5 <| And.intro @xk6 <| And.intro @xk7 <| And.intro @xk8 <| And.intro @xe_mv <| And.intro @xe_pick <| And.intro @xe_alloc <| And.intro @xe_box <| And.intro @xe_build <| And.intro @xe_bslice <| And.intro @xe_load <| And.intro @xe_store <| And.intro @xe_nilCheck <| And.intro @xe_bin <| And.intro @xe_eqb <| And.intro @xe_eqs <| And.intro @xe_eqn <| And.intro @xe_un <| And.intro @xe_conv <| And.intro @xe_toStr <| And.intro @xe_slice <| And.intro @xe_faddr <| And.intro @xe_field <| And.intro @xe_iaddr <| And.intro @xe_iaddrA <| And.intro @xe_index <| And.intro @xe_indexStr <| And.intro @xe_extract <| And.intro @xe_len <| And.intro @xe_max <| And.intro @xe_min <| And.intro @xe_mkSlice <| And.intro @xe_mkFunc <| And.intro @xe_mapGet <| And.intro @xe_call <| And.intro @sb1 <| @sb2) := And.intro @xk1 <| And.intro @xk2 <| And.intro @xk3 <| And.intro @xk4 <| And.intro @xk5 <| And.intro @xk6 <| And.intro @xk7 <| And.intro @xk8 <| And.intro @xe_mv <| And.intro @xe_pick <| And.intro @xe_alloc <| And.intro @xe_box <| And.intro @xe_build <| And.intro @xe_bslice <| And.intro @xe_load <| And.intro @xe_store <| And.intro @xe_nilCheck <| And.intro @xe_bin <| And.intro @xe_eqb <| And.intro @xe_eqs <| And.intro @xe_eqn <| And.intro @xe_un <| And.intro @xe_conv <| And.intro @xe_toStr <| And.intro @xe_slice <| And.intro @xe_faddr <| And.intro @xe_field <| And.intro @xe_iaddr <| And.intro @xe_iaddrA <| And.intro @xe_index <| And.intro @xe_indexStr <| And.intro @xe_extract <| And.intro @xe_len <| And.intro @xe_max <| And.intro @xe_min <| And.intro @xe_mkSlice <| And.intro @xe_mkFunc <| And.intro @xe_mapGet <| And.intro @xe_call <| And.intro @sb1 <| @sb2
theorem G_mapSet {P : Program} {l : List Grp} {xs : List AV} {K : AV → List Grp → Prop} : @opG P .mapSet l xs ⟨K⟩ = @opK P .mapSet (hl l) xs ⟨fun x H' => ∀ l', H' = hl l' → K x l'⟩ := (G_eff rfl rfl).trans (by simp only [AK.appOk, true_and])
attribute [push_cast] G_mapGet G_mapSet
end Go.Proofs.Ytdjbcenfgceejaa.Abs
