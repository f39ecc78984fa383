/-
  Groups that nobody will write again are read as data: at a point of the code, and at a call.
-/
import Derived.Test.YtdmjhlofphhldaaAbs16
set_option linter.unusedSimpArgs false
set_option linter.unusedVariables false
namespace Go.Proofs.Ytdmjhlofphhldaa.Abs

def Grp.dead (G : Grp) : Grp := ⟨0, G.ver + 1, false, []⟩
/-- These groups are given up. -/
def AHeap.kill (H : AHeap) (ks : List Nat) : AHeap := ⟨H.n, fun g => if g ∈ ks then (H.at_ g).dead else H.at_ g⟩
/-- All but these are. -/
def AHeap.only (H : AHeap) (ks : List Nat) : AHeap := ⟨H.n, fun g => if g ∈ ks then H.at_ g else (H.at_ g).dead⟩
def MS.only (S : MS) (ks : List Nat) : MS := { S with cur := fun g => if g ∈ ks then S.cur g else S.cur g + 1, wid := fun g => if g ∈ ks then S.wid g else 0 }
def MS.kill (S : MS) (H : AHeap) (ks : List Nat) : MS := { S with
  im := fun b => S.im b ∨ ∃ g, g < H.n ∧ g ∈ ks ∧ 0 < (H.at_ g).w ∧ 0 < S.cap g ∧ b = S.place g
  cur := fun g => if g ∈ ks then S.cur g + 1 else S.cur g
  wid := fun g => if g ∈ ks then 0 else S.wid g }

section
variable {S : MS} {H : AHeap} (ks : List Nat)

theorem only_evo : Evo S (S.only ks) := by
  refine ⟨rfl, rfl, rfl, rfl, Nat.le_refl _, fun _ _ => rfl, fun _ h => h, fun _ h => h, fun _ h => .inl h, Nat.le_refl _, fun g _ => ?_, fun g _ hc => ?_⟩
  · show S.cur g ≤ if g ∈ ks then S.cur g else S.cur g + 1
    split <;> omega
  · have hc' : (if g ∈ ks then S.cur g else S.cur g + 1) = S.cur g := hc
    refine ⟨rfl, rfl, ?_⟩
    show (if g ∈ ks then S.wid g else 0) = S.wid g
    by_cases h : g ∈ ks
    · rw [if_pos h]
    · rw [if_neg h] at hc'; omega

theorem dead_rel {S' : MS} {G : Grp} {g : Nat} (h1 : S'.cur g = G.ver + 1) (h2 : S'.wid g = 0) : GRel S' G.dead g := ⟨h1, h2, fun h => absurd h (Nat.lt_irrefl _), fun h => absurd h (Nat.lt_irrefl _), fun h => absurd h (Nat.lt_irrefl _), fun _ h => by cases h⟩

theorem dead_has {G : Grp} {c : Nat} : ¬ G.dead.has c := by
  rintro (⟨h, _⟩ | ⟨_, h⟩)
  · exact absurd h (Nat.lt_irrefl _)
  · cases h

theorem only_rel (h : SRel S H) : SRel (S.only ks) (H.only ks) where
  n := h.n
  grp g hg := by
    have hG := h.grp g hg
    by_cases hk : g ∈ ks
    · have e1 : (H.only ks).at_ g = H.at_ g := by show (if g ∈ ks then _ else _) = _; rw [if_pos hk]
      have e2 : (S.only ks).cur g = S.cur g := by show (if g ∈ ks then _ else _) = _; rw [if_pos hk]
      have e3 : (S.only ks).wid g = S.wid g := by show (if g ∈ ks then _ else _) = _; rw [if_pos hk]
      rw [e1]
      refine ⟨e2.trans hG.ver, e3.trans hG.wid, fun hw hc => ?_, hG.len, hG.full, fun hw he => ?_⟩
      · obtain ⟨⟨cells, T, vs, a1, a2, a3, a4⟩, b⟩ := hG.live hw hc
        exact ⟨⟨cells, T, vs, a1, a2, VsRel.mono (only_evo ks) _ a3, a4⟩, b⟩
      · obtain ⟨⟨es, clock, a1, a2⟩, b⟩ := hG.mlive hw he
        exact ⟨⟨es, clock, a1, VsRel.mono (only_evo ks) _ a2⟩, b⟩
    · have e1 : (H.only ks).at_ g = (H.at_ g).dead := by show (if g ∈ ks then _ else _) = _; rw [if_neg hk]
      have e2 : (S.only ks).cur g = S.cur g + 1 := by show (if g ∈ ks then _ else _) = _; rw [if_neg hk]
      have e3 : (S.only ks).wid g = 0 := by show (if g ∈ ks then _ else _) = _; rw [if_neg hk]
      rw [e1]
      exact dead_rel (by rw [e2, hG.ver]) e3
  apart g g' hg hg' hne hw hw' := by
    have key : ∀ g, ((H.only ks).at_ g).has (S.cap g) → (H.at_ g).has (S.cap g) := fun g hw => by
      have : (if g ∈ ks then H.at_ g else (H.at_ g).dead).has (S.cap g) := hw
      split at this
      · exact this
      · exact absurd this dead_has
    exact h.apart g g' hg hg' hne (key g hw) (key g' hw')
  im := h.im

theorem kill_evo (h : SRel S H) : Evo S (S.kill H ks) := by
  refine ⟨rfl, rfl, rfl, rfl, Nat.le_refl _, fun _ _ => rfl, fun _ h => .inl h, fun _ h => h, fun b hb => ?_, Nat.le_refl _, fun g _ => ?_, fun g _ hc => ?_⟩
  · rcases hb with hb | ⟨g, hg, _, hw, hc, rfl⟩
    · exact .inl hb
    · exact .inr fun hk => ((h.grp g hg).live hw hc).2 (.inr hk)
  · show S.cur g ≤ if g ∈ ks then S.cur g + 1 else S.cur g
    split <;> omega
  · have hc' : (if g ∈ ks then S.cur g + 1 else S.cur g) = S.cur g := hc
    refine ⟨rfl, rfl, ?_⟩
    show (if g ∈ ks then 0 else S.wid g) = S.wid g
    by_cases h : g ∈ ks
    · rw [if_pos h] at hc'; omega
    · rw [if_neg h]

theorem kill_rel (h : SRel S H) : SRel (S.kill H ks) (H.kill ks) where
  n := h.n
  grp g hg := by
    have hG := h.grp g hg
    by_cases hk : g ∈ ks
    · have e1 : (H.kill ks).at_ g = (H.at_ g).dead := by show (if g ∈ ks then _ else _) = _; rw [if_pos hk]
      have e2 : (S.kill H ks).cur g = S.cur g + 1 := by show (if g ∈ ks then _ else _) = _; rw [if_pos hk]
      have e3 : (S.kill H ks).wid g = 0 := by show (if g ∈ ks then _ else _) = _; rw [if_pos hk]
      rw [e1]
      exact dead_rel (by rw [e2, hG.ver]) e3
    · have e1 : (H.kill ks).at_ g = H.at_ g := by show (if g ∈ ks then _ else _) = _; rw [if_neg hk]
      have e2 : (S.kill H ks).cur g = S.cur g := by show (if g ∈ ks then _ else _) = _; rw [if_neg hk]
      have e3 : (S.kill H ks).wid g = S.wid g := by show (if g ∈ ks then _ else _) = _; rw [if_neg hk]
      rw [e1]
      have hni : (H.at_ g).has (S.cap g) → ¬ ((S.kill H ks).im (S.place g) ∨ (S.kill H ks).keep (S.place g)) := fun hq => by
        have b3 := hG.has_ni hq
        rintro ((hi | ⟨g', hg', hk', hw', hc', he⟩) | hi)
        · exact b3 (.inl hi)
        · exact h.apart g g' hg hg' (fun hgg => hk (hgg ▸ hk')) hq (.inl ⟨hw', hc'⟩) he
        · exact b3 (.inr hi)
      refine ⟨e2.trans hG.ver, e3.trans hG.wid, fun hw hc => ?_, hG.len, hG.full, fun hw he => ?_⟩
      · obtain ⟨⟨cells, T, vs, a1, a2, a3, a4⟩, b3⟩ := hG.live hw hc
        exact ⟨⟨cells, T, vs, a1, a2, VsRel.mono (kill_evo ks h) _ a3, a4⟩, hni (.inl ⟨hw, hc⟩)⟩
      · obtain ⟨⟨es, clock, a1, a2⟩, b3⟩ := hG.mlive hw he
        exact ⟨⟨es, clock, a1, VsRel.mono (kill_evo ks h) _ a2⟩, hni (.inr ⟨hw, he⟩)⟩
  apart g g' hg hg' hne hw hw' := by
    have key : ∀ g, ((H.kill ks).at_ g).has (S.cap g) → (H.at_ g).has (S.cap g) := fun g hw => by
      have : (if g ∈ ks then (H.at_ g).dead else H.at_ g).has (S.cap g) := hw
      split at this
      · exact absurd this dead_has
      · exact this
    exact h.apart g g' hg hg' hne (key g hw) (key g' hw')
  im b hb := by
    rcases hb with (hb | ⟨g, hg, _, hw, hc, rfl⟩) | hb
    · exact h.im b (.inl hb)
    · exact (h.grp g hg).lt hw hc
    · exact h.im b (.inr hb)

theorem frz_kill (h : SRel S H) (d : Nat) {x : AV} {v : Value} (hok : frzOk d (H.only ks) x) (hv : VRel S x v) : VRel (S.kill H ks) (frzV d (H.only ks) x) v := by
  obtain ⟨k1, k2⟩ := frz_ok (only_rel ks h) d hok (VRel.mono (only_evo ks) _ hv)
  refine VRel.of_pure (S := (S.only ks).shut (H.only ks)) (S' := S.kill H ks) rfl (fun b hb => ?_) k2 k1
  rcases hb with hb | ⟨g, hg, hw, hc, rfl⟩
  · exact .inl hb
  · have hw' : 0 < (if g ∈ ks then H.at_ g else (H.at_ g).dead).w := hw
    split at hw'
    · rename_i hk; exact .inr ⟨g, hg, hk, hw', hc, rfl⟩
    · exact absurd hw' (Nat.lt_irrefl _)
theorem frzL_kill (h : SRel S H) (d : Nat) : ∀ {xs : List AV} {vs : List Value}, (∀ y ∈ xs, frzOk d (H.only ks) y) → VsRel S xs vs → VsRel (S.kill H ks) (xs.map (frzV d (H.only ks))) vs
  | [], _, _, hh => hh
  | x :: xs, vs, hc, hh => by
    obtain ⟨u, r, rfl, h1, h2⟩ := hh
    exact ⟨u, r, rfl, frz_kill ks h d (hc x (by simp)) h1, frzL_kill h d (fun y hy => hc y (by simp [hy])) h2⟩
end

/-- AT A CALL: groups that are handed on, and given up. -/
theorem acalls_freeze {P : Program} {f : Nat} {xs : List AV} {H : AHeap} {K : AV → AHeap → Prop} (d : Nat) (ks : List Nat) (hok : ∀ x ∈ xs, frzOk d (H.only ks) x) (h : ACalls P f (xs.map (frzV d (H.only ks))) (H.kill ks) K) : ACalls P f xs H K := by
  refine ⟨h.1, fun S cargs hS hx => (h.2 (S.kill H ks) cargs (kill_rel ks hS) (frzL_kill ks hS d hok hx)).mono fun e w' hh => ?_⟩
  obtain ⟨v, S', x, H', rfl, rfl, ev, hS', hv, hK⟩ := hh
  exact ⟨v, S', x, H', rfl, rfl, (kill_evo ks hS).trans ev, hS', hv, hK⟩

/-- .. whose answer is data. -/
theorem pc_give {P : Program} {f : Nat} {xs ys : List AV} {y : AV} {H : AHeap} {K : AV → AHeap → Prop} (h : PC P f ys y) (d : Nat) (ks : List Nat) (hok : ∀ x ∈ xs, frzOk d (H.only ks) x) (hys : xs.map (frzV d (H.only ks)) = ys) (hp : pureL ys = true) (hK : K y (H.kill ks)) : ACalls P f xs H K :=
  acalls_freeze d ks hok (by rw [hys]; exact pc_call' h hp hK)

/-- AT A POINT OF THE CODE: a slot is read as data. -/
theorem T_freeze {P : Program} {n b : Nat} {c : AC} {env : Env} {H : AHeap} {Q : Ex → Env → AHeap → Prop} (i d : Nat) (ks : List Nat) (hok : frzOk d (H.only ks) (env i)) (h : T P n b c (env.put (some i) (frzV d (H.only ks) (env i))) (H.kill ks) Q) : T P n b c env H Q := by
  intro rd mm hrd code hc S a hb hS hF
  refine wpIn_mono (h rd mm hrd code hc (S.kill H ks) a hb (kill_rel ks hS) ⟨hF.size, hF.defers.mono (kill_evo ks hS), fun j hj => ?_⟩) fun e a w hh => hh.trans ((kill_evo ks hS).down hb)
  show VRel _ (if j = i then _ else _) _
  split
  · rename_i hji
    subst hji
    exact frz_kill ks hS d hok (hF.val j hj)
  · exact VRel.mono (kill_evo ks hS) _ (hF.val j hj)

/-- A slot that holds the nil slice holds a slice into a group without room. -/
theorem T_virt {P : Program} {n b : Nat} {c : AC} {env : Env} {H : AHeap} {Q : Ex → Env → AHeap → Prop} (i w : Nat) (hw0 : 0 < w) (hi : env i = .nilS) (h : T P n b c (env.put (some i) (.ref H.n 1 0 0)) (H.push ⟨w, 1, true, []⟩) Q) : T P n b c env H Q := by
  intro rd mm hrd code hc S a hb hS hF
  refine wpIn_mono (h rd mm hrd code hc (S.virt w) a (Nat.le_succ_of_le hb) (hS.virt w hw0) ⟨hF.size, hF.defers.mono (Evo.virt _), fun j hj => ?_⟩) fun e a w hh => hh.trans ((Evo.virt _).down hb)
  show VRel _ (if j = i then _ else _) _
  split
  · rename_i hji
    subst hji
    have hv := hF.val j hj
    rw [hi] at hv
    refine ⟨⟨none, 0, hv, fun _ => rfl⟩, ?_, ?_, fun _ => ⟨none, 0, hv, .inr ⟨rfl, rfl, ?_⟩⟩⟩
    · show H.n < S.n + 1; rw [hS.n]; omega
    · show 1 ≤ fput _ _ _ _; rw [← hS.n, fput_same]; exact Nat.le_refl _
    · show fput _ _ _ _ ≤ 0; rw [← hS.n, fput_same]; exact Nat.le_refl _
  · exact VRel.mono (Evo.virt _) _ (hF.val j hj)
/-- A slot is read more weakly. -/
theorem T_weak {P : Program} {n b : Nat} {c : AC} {env : Env} {H : AHeap} {Q : Ex → Env → AHeap → Prop} (i : Nat) (y : AV) (hi : AV.le (env i) y) (h : T P n b c (env.put (some i) y) H Q) : T P n b c env H Q := by
  intro rd mm hrd code hc S a hb hS hF
  refine h rd mm hrd code hc S a hb hS ⟨hF.size, hF.defers, fun j hj => ?_⟩
  show VRel _ (if j = i then _ else _) _
  split
  · rename_i hji
    subst hji
    exact hi S _ (hF.val j hj)
  · exact hF.val j hj

theorem dead_eq (G : Grp) : G.dead = ⟨0, G.ver + 1, false, []⟩ := (rfl)
theorem kill_n (H : AHeap) (ks : List Nat) : (H.kill ks).n = H.n := (rfl)
theorem only_n (H : AHeap) (ks : List Nat) : (H.only ks).n = H.n := (rfl)
theorem kill_one (H : AHeap) (k g : Nat) : (H.kill [k]).at_ g = if g = k then (H.at_ g).dead else H.at_ g := by
  show (if g ∈ [k] then _ else _) = _
  simp
theorem only_one (H : AHeap) (k g : Nat) : (H.only [k]).at_ g = if g = k then H.at_ g else (H.at_ g).dead := by
  show (if g ∈ [k] then _ else _) = _
  simp
theorem kill_two (H : AHeap) (k l g : Nat) : (H.kill [k, l]).at_ g = if g = k then (H.at_ g).dead else if g = l then (H.at_ g).dead else H.at_ g := by
  show (if g ∈ [k, l] then _ else _) = _
  by_cases h1 : g = k <;> by_cases h2 : g = l <;> simp [h1, h2]
theorem only_two (H : AHeap) (k l g : Nat) : (H.only [k, l]).at_ g = if g = k then H.at_ g else if g = l then H.at_ g else (H.at_ g).dead := by
  show (if g ∈ [k, l] then _ else _) = _
  by_cases h1 : g = k <;> by_cases h2 : g = l <;> simp [h1, h2]
attribute [push_cast] slot_eval const_eval put_none fput_eval hput_eval entry_zero entry_succ guard_eval guard_none optK_some z28 z29 z30 z31 z32 z33 kill_n only_n dead_eq
attribute [push_cast] List.map_cons List.map_nil List.drop_zero List.drop_succ_cons List.take_succ_cons List.take_zero List.drop_nil List.take_nil List.length_cons List.length_nil List.getD_cons_zero List.getD_cons_succ List.set_cons_zero List.set_cons_succ Option.getD_some Option.getD_none List.length_set List.append_assoc List.nil_append List.append_nil List.cons_append List.getElem?_cons_zero List.getElem?_cons_succ List.forall_mem_cons List.not_mem_nil List.length_map Bool.false_eq_true Bool.true_eq_false false_implies true_implies forall_const true_and and_true false_and and_false cond_true cond_false Bool.not_true Bool.not_false decide_eq_true_eq decide_eq_false_iff_not not_false_eq_true not_true_eq_false imp_false Nat.lt_irrefl Nat.le_refl Nat.zero_add Nat.add_zero Nat.zero_lt_succ Nat.lt_add_one implies_true decide_true decide_false Bool.not_eq_true Bool.not_eq_false Bool.not_eq_true' Bool.not_eq_false' eq_self Bool.and_self Bool.and_true Bool.true_and Bool.and_false Bool.false_and Bool.or_true Bool.true_or Bool.or_false Bool.false_or ne_eq Int.natCast_nonneg Int.toNat_natCast or_self true_or or_true false_or or_false and_self Int.cast_ofNat_Int if_true if_false
end Go.Proofs.Ytdmjhlofphhldaa.Abs
