/-
  Groups that nobody will write again are read as data: at a point of the code, and at a call.
-/
import Derived.Test.YtdmjhlofphhldaaAbs16
set_option linter.unusedSimpArgs false
set_option linter.unusedVariables false
namespace Go.Proofs.Ytdmjhlofphhldaa.Abs

def Grp.dead (G : Grp) : Grp := ⟨0, G.ver + 1, false, []⟩
/-- These groups are given up. -/
def AHeap.kill (H : AHeap) (ks : List Nat) : AHeap := ⟨H.n, fun g => if g ∈ ks then (H.at_ g).dead else H.at_ g⟩
/-- All but these are. -/
def AHeap.only (H : AHeap) (ks : List Nat) : AHeap := ⟨H.n, fun g => if g ∈ ks then H.at_ g else (H.at_ g).dead⟩
def MS.only (S : MS) (ks : List Nat) : MS := { S with cur := fun g => if g ∈ ks then S.cur g else S.cur g + 1, wid := fun g => if g ∈ ks then S.wid g else 0 }
def MS.kill (S : MS) (H : AHeap) (ks : List Nat) : MS := { S with
  im := fun b => S.im b ∨ ∃ g, g < H.n ∧ g ∈ ks ∧ 0 < (H.at_ g).w ∧ b = S.place g
  cur := fun g => if g ∈ ks then S.cur g + 1 else S.cur g
  wid := fun g => if g ∈ ks then 0 else S.wid g }

section
variable {S : MS} {H : AHeap} (ks : List Nat)

theorem only_evo : Evo S (S.only ks) := by
  refine ⟨rfl, rfl, rfl, Nat.le_refl _, fun _ _ => rfl, fun _ h => h, fun _ h => h, fun _ h => .inl h, Nat.le_refl _, fun g _ => ?_, fun g _ hc => ?_⟩
  · show S.cur g ≤ if g ∈ ks then S.cur g else S.cur g + 1
    split <;> omega
  · have hc' : (if g ∈ ks then S.cur g else S.cur g + 1) = S.cur g := hc
    refine ⟨rfl, rfl, ?_⟩
    show (if g ∈ ks then S.wid g else 0) = S.wid g
    by_cases h : g ∈ ks
    · rw [if_pos h]
    · rw [if_neg h] at hc'; omega

theorem dead_rel {S' : MS} {G : Grp} {g : Nat} (h1 : S'.cur g = G.ver + 1) (h2 : S'.wid g = 0) : GRel S' G.dead g := ⟨h1, h2, fun h => absurd h (Nat.lt_irrefl _)⟩

theorem only_rel (h : SRel S H) : SRel (S.only ks) (H.only ks) where
  n := h.n
  grp g hg := by
    have hG := h.grp g hg
    by_cases hk : g ∈ ks
    · have e1 : (H.only ks).at_ g = H.at_ g := by show (if g ∈ ks then _ else _) = _; rw [if_pos hk]
      have e2 : (S.only ks).cur g = S.cur g := by show (if g ∈ ks then _ else _) = _; rw [if_pos hk]
      have e3 : (S.only ks).wid g = S.wid g := by show (if g ∈ ks then _ else _) = _; rw [if_pos hk]
      rw [e1]
      refine ⟨e2.trans hG.ver, e3.trans hG.wid, fun hw => ?_⟩
      obtain ⟨⟨cells, T, vs, a1, a2, a3, a4⟩, b⟩ := hG.live hw
      exact ⟨⟨cells, T, vs, a1, a2, VsRel.mono (only_evo ks) _ a3, a4⟩, b⟩
    · have e1 : (H.only ks).at_ g = (H.at_ g).dead := by show (if g ∈ ks then _ else _) = _; rw [if_neg hk]
      have e2 : (S.only ks).cur g = S.cur g + 1 := by show (if g ∈ ks then _ else _) = _; rw [if_neg hk]
      have e3 : (S.only ks).wid g = 0 := by show (if g ∈ ks then _ else _) = _; rw [if_neg hk]
      rw [e1]
      exact dead_rel (by rw [e2, hG.ver]) e3
  apart g g' hg hg' hne hw hw' := by
    have key : ∀ g, 0 < ((H.only ks).at_ g).w → 0 < (H.at_ g).w := fun g hw => by
      have : 0 < (if g ∈ ks then H.at_ g else (H.at_ g).dead).w := hw
      split at this
      · exact this
      · exact absurd this (Nat.lt_irrefl _)
    exact h.apart g g' hg hg' hne (key g hw) (key g' hw')
  im := h.im

theorem kill_evo (h : SRel S H) : Evo S (S.kill H ks) := by
  refine ⟨rfl, rfl, rfl, Nat.le_refl _, fun _ _ => rfl, fun _ h => .inl h, fun _ h => h, fun b hb => ?_, Nat.le_refl _, fun g _ => ?_, fun g _ hc => ?_⟩
  · rcases hb with hb | ⟨g, hg, _, hw, rfl⟩
    · exact .inl hb
    · exact .inr fun hk => ((h.grp g hg).live hw).2.2.2 (.inr hk)
  · show S.cur g ≤ if g ∈ ks then S.cur g + 1 else S.cur g
    split <;> omega
  · have hc' : (if g ∈ ks then S.cur g + 1 else S.cur g) = S.cur g := hc
    refine ⟨rfl, rfl, ?_⟩
    show (if g ∈ ks then 0 else S.wid g) = S.wid g
    by_cases h : g ∈ ks
    · rw [if_pos h] at hc'; omega
    · rw [if_neg h]

theorem kill_rel (h : SRel S H) : SRel (S.kill H ks) (H.kill ks) where
  n := h.n
  grp g hg := by
    have hG := h.grp g hg
    by_cases hk : g ∈ ks
    · have e1 : (H.kill ks).at_ g = (H.at_ g).dead := by show (if g ∈ ks then _ else _) = _; rw [if_pos hk]
      have e2 : (S.kill H ks).cur g = S.cur g + 1 := by show (if g ∈ ks then _ else _) = _; rw [if_pos hk]
      have e3 : (S.kill H ks).wid g = 0 := by show (if g ∈ ks then _ else _) = _; rw [if_pos hk]
      rw [e1]
      exact dead_rel (by rw [e2, hG.ver]) e3
    · have e1 : (H.kill ks).at_ g = H.at_ g := by show (if g ∈ ks then _ else _) = _; rw [if_neg hk]
      have e2 : (S.kill H ks).cur g = S.cur g := by show (if g ∈ ks then _ else _) = _; rw [if_neg hk]
      have e3 : (S.kill H ks).wid g = S.wid g := by show (if g ∈ ks then _ else _) = _; rw [if_neg hk]
      rw [e1]
      refine ⟨e2.trans hG.ver, e3.trans hG.wid, fun hw => ?_⟩
      obtain ⟨⟨cells, T, vs, a1, a2, a3, a4⟩, b1, b2, b3⟩ := hG.live hw
      refine ⟨⟨cells, T, vs, a1, a2, VsRel.mono (kill_evo ks h) _ a3, a4⟩, b1, b2, ?_⟩
      rintro ((hi | ⟨g', hg', hk', hw', he⟩) | hi)
      · exact b3 (.inl hi)
      · exact h.apart g g' hg hg' (fun hgg => hk (hgg ▸ hk')) hw hw' he
      · exact b3 (.inr hi)
  apart g g' hg hg' hne hw hw' := by
    have key : ∀ g, 0 < ((H.kill ks).at_ g).w → 0 < (H.at_ g).w := fun g hw => by
      have : 0 < (if g ∈ ks then (H.at_ g).dead else H.at_ g).w := hw
      split at this
      · exact absurd this (Nat.lt_irrefl _)
      · exact this
    exact h.apart g g' hg hg' hne (key g hw) (key g' hw')
  im b hb := by
    rcases hb with (hb | ⟨g, hg, _, hw, rfl⟩) | hb
    · exact h.im b (.inl hb)
    · exact (h.grp g hg).lt hw
    · exact h.im b (.inr hb)

theorem frz_kill (h : SRel S H) (d : Nat) {x : AV} {v : Value} (hok : frzOk d (H.only ks) x) (hv : VRel S x v) : VRel (S.kill H ks) (frzV d (H.only ks) x) v := by
  obtain ⟨k1, k2⟩ := frz_ok (only_rel ks h) d hok (VRel.mono (only_evo ks) _ hv)
  refine VRel.of_pure (S := (S.only ks).shut (H.only ks)) (S' := S.kill H ks) rfl (fun b hb => ?_) k2 k1
  rcases hb with hb | ⟨g, hg, hw, rfl⟩
  · exact .inl hb
  · have hw' : 0 < (if g ∈ ks then H.at_ g else (H.at_ g).dead).w := hw
    split at hw'
    · rename_i hk; exact .inr ⟨g, hg, hk, hw', rfl⟩
    · exact absurd hw' (Nat.lt_irrefl _)
theorem frzL_kill (h : SRel S H) (d : Nat) : ∀ {xs : List AV} {vs : List Value}, (∀ y ∈ xs, frzOk d (H.only ks) y) → VsRel S xs vs → VsRel (S.kill H ks) (xs.map (frzV d (H.only ks))) vs
  | [], _, _, hh => hh
  | x :: xs, vs, hc, hh => by
    obtain ⟨u, r, rfl, h1, h2⟩ := hh
    exact ⟨u, r, rfl, frz_kill ks h d (hc x (by simp)) h1, frzL_kill h d (fun y hy => hc y (by simp [hy])) h2⟩
end

/-- AT A CALL: groups that are handed on, and given up. -/
theorem acalls_freeze {P : Program} {f : Nat} {xs : List AV} {H : AHeap} {K : AV → AHeap → Prop} (d : Nat) (ks : List Nat) (hok : ∀ x ∈ xs, frzOk d (H.only ks) x) (h : ACalls P f (xs.map (frzV d (H.only ks))) (H.kill ks) K) : ACalls P f xs H K := by
  refine ⟨h.1, fun S cargs hS hx => (h.2 (S.kill H ks) cargs (kill_rel ks hS) (frzL_kill ks hS d hok hx)).mono fun e w' hh => ?_⟩
  obtain ⟨v, S', x, H', rfl, rfl, ev, hS', hv, hK⟩ := hh
  exact ⟨v, S', x, H', rfl, rfl, (kill_evo ks hS).trans ev, hS', hv, hK⟩

/-- .. whose answer is data. -/
theorem pc_give {P : Program} {f : Nat} {xs ys : List AV} {y : AV} {H : AHeap} {K : AV → AHeap → Prop} (h : PC P f ys y) (d : Nat) (ks : List Nat) (hok : ∀ x ∈ xs, frzOk d (H.only ks) x) (hys : xs.map (frzV d (H.only ks)) = ys) (hp : pureL ys = true) (hK : K y (H.kill ks)) : ACalls P f xs H K :=
  acalls_freeze d ks hok (by rw [hys]; exact pc_call' h hp hK)

/-- AT A POINT OF THE CODE: a slot is read as data. -/
theorem T_freeze {P : Program} {n : Nat} {c : AC} {env : Env} {H : AHeap} {Q : Ex → Env → AHeap → Prop} (i d : Nat) (ks : List Nat) (hok : frzOk d (H.only ks) (env i)) (h : T P n c (env.put (some i) (frzV d (H.only ks) (env i))) (H.kill ks) Q) : T P n c env H Q := by
  intro code hc S a hS hF
  refine wp_mono (h code hc (S.kill H ks) a (kill_rel ks hS) ⟨hF.size, hF.defers, fun j hj => ?_⟩) fun e a w hh => hh.trans (kill_evo ks hS)
  show VRel _ (if j = i then _ else _) _
  split
  · rename_i hji
    subst hji
    exact frz_kill ks hS d hok (hF.val j hj)
  · exact VRel.mono (kill_evo ks hS) _ (hF.val j hj)

theorem kill_n (H : AHeap) (ks : List Nat) : (H.kill ks).n = H.n := rfl
theorem only_n (H : AHeap) (ks : List Nat) : (H.only ks).n = H.n := rfl
theorem kill_one (H : AHeap) (k g : Nat) : (H.kill [k]).at_ g = if g = k then (H.at_ g).dead else H.at_ g := by
  show (if g ∈ [k] then _ else _) = _
  simp
theorem only_one (H : AHeap) (k g : Nat) : (H.only [k]).at_ g = if g = k then H.at_ g else (H.at_ g).dead := by
  show (if g ∈ [k] then _ else _) = _
  simp
theorem kill_two (H : AHeap) (k l g : Nat) : (H.kill [k, l]).at_ g = if g = k then (H.at_ g).dead else if g = l then (H.at_ g).dead else H.at_ g := by
  show (if g ∈ [k, l] then _ else _) = _
  by_cases h1 : g = k <;> by_cases h2 : g = l <;> simp [h1, h2]
theorem only_two (H : AHeap) (k l g : Nat) : (H.only [k, l]).at_ g = if g = k then H.at_ g else if g = l then H.at_ g else (H.at_ g).dead := by
  show (if g ∈ [k, l] then _ else _) = _
  by_cases h1 : g = k <;> by_cases h2 : g = l <;> simp [h1, h2]
end Go.Proofs.Ytdmjhlofphhldaa.Abs
