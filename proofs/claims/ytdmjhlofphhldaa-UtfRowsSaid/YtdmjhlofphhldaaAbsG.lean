/-
  A region whose order is drawn, in which memory is made and written: each pair of operations either commutes, or the later one waits for the other.
-/
import Derived.Test.YtdmjhlofphhldaaAbs12
set_option linter.unusedSimpArgs false
set_option linter.unusedVariables false
namespace Go.Proofs.Ytdmjhlofphhldaa.Abs

def hl (l : List Grp) : AHeap := ⟨l.length, fun g => l.getD g default⟩
theorem ahp {n m : Nat} {f g : Nat → Grp} (h : n = m) (k : ∀ j, f j = g j) : (⟨n, f⟩ : AHeap) = ⟨m, g⟩ := by
  subst h
  rw [show f = g from funext k]
theorem hl_push (l : List Grp) (G : Grp) : (hl l).push G = hl (l ++ [G]) := by
  refine ahp (by simp [hl]) fun j => ?_
  show (if j = l.length then G else l.getD j default) = (l ++ [G]).getD j default
  by_cases h : j = l.length
  · rw [if_pos h, h]; simp
  · rw [if_neg h]
    by_cases hj : j < l.length
    · simp [List.getD, List.getElem?_append_left hj]
    · simp [List.getD, List.getElem?_eq_none (show l.length ≤ j by omega), List.getElem?_eq_none (show (l ++ [G]).length ≤ j by simp; omega)]
theorem hl_set (l : List Grp) (g : Nat) (G : Grp) (h : g < l.length) : (hl l).set g G = hl (l.set g G) := by
  refine ahp (by simp [hl]) fun j => ?_
  show (if j = g then G else l.getD j default) = (l.set g G).getD j default
  by_cases hj : j = g
  · rw [if_pos hj, hj]; simp [h]
  · rw [if_neg hj]; simp [List.getD, List.getElem?_set_ne (Ne.symm hj)]

/-- Of two heaps: group g is, but for what its elements hold, the same. -/
structure Alike (H H' : AHeap) (g : Nat) : Prop where
  ver : (H'.at_ g).ver = (H.at_ g).ver
  w : (H'.at_ g).w = (H.at_ g).w
  exact : (H'.at_ g).exact = (H.at_ g).exact
  len : (H'.at_ g).xs.length = (H.at_ g).xs.length
theorem Alike.of_eq {H H' : AHeap} {g : Nat} (h : H'.at_ g = H.at_ g) : Alike H H' g := by constructor <;> rw [h]

/-- A property of all groups that values lead to at once. -/
def onRefs (p : Nat → Prop) : List AV → Prop
  | [] => True
  | .ref g _ _ _ :: r => p g ∧ onRefs p r
  | .ptr g _ _ _ :: r => p g ∧ onRefs p r
  | .map g _ :: r => p g ∧ onRefs p r
  | _ :: r => onRefs p r
theorem onRefs_mono {p q : Nat → Prop} (h : ∀ g, p g → q g) : ∀ {xs : List AV}, onRefs p xs → onRefs q xs
  | [], _ => trivial
  | x :: r, hx => by
    cases x <;> simp only [onRefs] at hx ⊢ <;> first | exact onRefs_mono h hx | exact ⟨h _ hx.1, onRefs_mono h hx.2⟩

section
variable {P : Program} {H H' : AHeap}
theorem sliceA_alike {w : Nat} {x : AV} {lo hi mx : Option Int} {K : AV → Prop} (h : onRefs (Alike H H') [x]) (hs : sliceA w x lo hi mx H K) : sliceA w x lo hi mx H' K := by
  cases mx with
  | some m => simpa only [sliceA] using hs
  | none =>
    cases x <;> simp only [sliceA] at hs ⊢ <;> try exact hs
    obtain ⟨⟨h1, h2, h3, h4⟩, _⟩ := h
    rw [h1, h2, h3, h4]
    exact hs

set_option maxHeartbeats 4000000 in
theorem still_alike {k : AK} (hk : k.still = true) (hr : k.reads = false) {xs : List AV} {x : AV} (hg : onRefs (Alike H H') xs) (h : stepA P k H xs fun y _ => y = x) : stepA P k H' xs fun y _ => y = x := by
  cases k <;> simp only [AK.still, AK.reads, reduceCtorEq] at hk hr
  case mv => rcases xs with _ | ⟨a, _ | ⟨b, r⟩⟩ <;> exact h
  case pick => rcases xs with _ | ⟨a, _ | ⟨b, _ | ⟨c, _ | ⟨d, r⟩⟩⟩⟩ <;> first | exact h | (cases a <;> exact h)
  case build => exact h
  case nilCheck => rcases xs with _ | ⟨a, _ | ⟨b, r⟩⟩ <;> first | exact h | (cases a <;> exact h)
  case bin => rcases xs with _ | ⟨a, _ | ⟨b, _ | ⟨c, r⟩⟩⟩ <;> first | exact h | (cases a <;> exact h) | (cases a <;> cases b <;> exact h)
  case eqb => rcases xs with _ | ⟨a, _ | ⟨b, _ | ⟨c, r⟩⟩⟩ <;> first | exact h | (cases a <;> exact h) | (cases a <;> cases b <;> exact h)
  case eqs => rcases xs with _ | ⟨a, _ | ⟨b, _ | ⟨c, r⟩⟩⟩ <;> first | exact h | (cases a <;> exact h) | (cases a <;> cases b <;> exact h)
  case eqn => rcases xs with _ | ⟨a, _ | ⟨b, _ | ⟨c, r⟩⟩⟩ <;> first | exact h | (cases a <;> exact h) | (cases b <;> first | exact h | (cases a <;> exact h))
  case un => rcases xs with _ | ⟨a, _ | ⟨b, r⟩⟩ <;> exact h
  case conv => rcases xs with _ | ⟨a, _ | ⟨b, r⟩⟩ <;> first | exact h | (cases a <;> exact h)
  case slice =>
    rcases xs with _ | ⟨a, r⟩
    · exact h
    · have ha : onRefs (Alike H H') [a] := by
        cases a <;> simp only [onRefs] at hg ⊢ <;> exact ⟨hg.1, trivial⟩
      obtain ⟨p, hp, h⟩ := optK_elim h
      obtain ⟨q, hq, h⟩ := optK_elim h
      obtain ⟨s, hs, h1, h2⟩ := optK_elim h
      simp only [stepA, hp, optK, hq, hs]
      exact ⟨h1, sliceA_alike ha h2⟩
  case faddr =>
    rcases xs with _ | ⟨a, _ | ⟨b, r⟩⟩ <;> try exact h
    · cases a <;> try exact h
      obtain ⟨⟨h1, h2, h3, h4⟩, _⟩ := hg
      simp only [stepA] at h ⊢
      rw [h1]; exact h
    · cases a <;> exact h
  case field => rcases xs with _ | ⟨a, _ | ⟨b, r⟩⟩ <;> first | exact h | (cases a <;> exact h)
  case iaddr =>
    rcases xs with _ | ⟨a, _ | ⟨b, _ | ⟨c, r⟩⟩⟩ <;> try exact h
    · cases a <;> exact h
    · cases a <;> cases b <;> try exact h
      obtain ⟨⟨h1, h2, h3, h4⟩, _⟩ := hg
      simp only [stepA] at h ⊢
      rw [h1, h2]; exact h
    · cases a <;> cases b <;> exact h
  case iaddrA =>
    rcases xs with _ | ⟨a, _ | ⟨b, _ | ⟨c, r⟩⟩⟩ <;> try exact h
    · cases a <;> exact h
    · cases a <;> cases b <;> try exact h
      obtain ⟨⟨h1, h2, h3, h4⟩, _⟩ := hg
      simp only [stepA] at h ⊢
      rw [h1]; exact h
    · cases a <;> cases b <;> exact h
  case index => rcases xs with _ | ⟨a, _ | ⟨b, _ | ⟨c, r⟩⟩⟩ <;> first | exact h | (cases a <;> exact h) | (cases a <;> cases b <;> exact h)
  case indexStr => rcases xs with _ | ⟨a, _ | ⟨b, _ | ⟨c, r⟩⟩⟩ <;> first | exact h | (cases a <;> exact h) | (cases a <;> cases b <;> exact h)
  case extract => rcases xs with _ | ⟨a, _ | ⟨b, r⟩⟩ <;> first | exact h | (cases a <;> exact h)
  case len s => cases s <;> rcases xs with _ | ⟨a, _ | ⟨b, r⟩⟩ <;> first | exact h | (cases a <;> exact h)
  case max => rcases xs with _ | ⟨a, _ | ⟨b, _ | ⟨c, r⟩⟩⟩ <;> first | exact h | (cases a <;> exact h) | (cases a <;> cases b <;> exact h)
  case min => rcases xs with _ | ⟨a, _ | ⟨b, _ | ⟨c, r⟩⟩⟩ <;> first | exact h | (cases a <;> exact h) | (cases a <;> cases b <;> exact h)
  case mkFunc => exact h

set_option maxHeartbeats 4000000 in
theorem still_same {k : AK} (hk : k.still = true) {xs : List AV} {x : AV} (hg : onRefs (fun g => H'.at_ g = H.at_ g) xs) (h : stepA P k H xs fun y _ => y = x) : stepA P k H' xs fun y _ => y = x := by
  cases hr : k.reads
  · exact still_alike hk hr (onRefs_mono (fun g e => Alike.of_eq e) hg) h
  · cases k <;> simp only [AK.reads, reduceCtorEq] at hr
    case load =>
      rcases xs with _ | ⟨a, _ | ⟨b, r⟩⟩ <;> try exact h
      · cases a <;> try exact h
        simp only [stepA] at h ⊢
        rw [hg.1]; exact h
      · cases a <;> exact h
    case toStr =>
      rcases xs with _ | ⟨a, _ | ⟨b, r⟩⟩ <;> try exact h
      cases a <;> try exact h
      · simp only [stepA, ElemsOk, elemsOf] at h ⊢
        rw [hg.1]; exact h
    case mapGet =>
      rcases xs with _ | ⟨a, _ | ⟨b, _ | ⟨c, r⟩⟩⟩ <;> try exact h
      · cases a <;> exact h
      · cases a <;> cases b <;> try exact h
        simp only [stepA] at h ⊢
        rw [hg.1]; exact h
      · cases a <;> cases b <;> exact h

theorem sliceA_mono {w : Nat} {x : AV} {lo hi mx : Option Int} {K K' : AV → Prop} (hk : ∀ x, K x → K' x) (h : sliceA w x lo hi mx H K) : sliceA w x lo hi mx H K' := by
  obtain ⟨y, h1, h2⟩ := sliceA_one h
  cases mx with
  | some m =>
    simp only [sliceA] at h ⊢
    obtain ⟨a1, a2, a3, a4⟩ := h
    refine ⟨a1, a2, a3, ?_⟩
    cases x <;> first | exact a4 | exact hk _ a4
  | none =>
    cases x <;> simp only [sliceA] at h ⊢ <;> try exact h
    · exact ⟨h.1, h.2.1, hk _ h.2.2⟩
    · exact ⟨h.1, h.2.1, hk _ h.2.2⟩
    · exact ⟨h.1, h.2.1, h.2.2.1, h.2.2.2.1, hk _ h.2.2.2.2⟩
    · exact ⟨h.1, h.2.1, h.2.2.1, h.2.2.2.1, hk _ h.2.2.2.2⟩
    · exact ⟨h.1, h.2.1, h.2.2.1, h.2.2.2.1, h.2.2.2.2.1, h.2.2.2.2.2.1, hk _ h.2.2.2.2.2.2⟩
set_option maxHeartbeats 4000000 in
/-- What still operations ask is monotone. -/
theorem still_mono {k : AK} (hs : k.still = true) {xs : List AV} {K K' : AV → AHeap → Prop} (hk : ∀ x H', K x H' → K' x H') (h : stepA P k H xs K) : stepA P k H xs K' := by
  cases k <;> simp only [AK.still, reduceCtorEq] at hs
  case bin op =>
    have hb : ∀ {k : IntKind} {a b : Int} {L L' : AV → Prop}, (∀ x, L x → L' x) → binI op k a b L → binI op k a b L' := fun {k a b L L'} hl hh => by
      cases op <;> simp only [binI] at hh ⊢ <;> first | exact hl _ hh | exact ⟨hh.1, hl _ hh.2⟩
    rcases xs with _ | ⟨a, _ | ⟨b, _ | ⟨c, r⟩⟩⟩
    · exact h
    · cases a <;> exact h
    · cases a <;> cases b <;> try exact h
      · cases op <;> simp only [stepA] at h ⊢ <;> first | exact ⟨h.1, hk _ _ h.2⟩ | exact ⟨h.1, hb (fun x hh => hk x H hh) h.2⟩
      · cases op <;> simp only [stepA] at h ⊢ <;> first | exact h | exact hk _ _ h
    · cases a <;> cases b <;> exact h
  case mapGet z =>
    rcases xs with _ | ⟨a, _ | ⟨b, _ | ⟨c, r⟩⟩⟩
    · exact h
    · cases a <;> exact h
    · cases a <;> cases b <;> try exact h
      obtain ⟨h1, h2, h3, h4, h5⟩ := h
      obtain ⟨u, hu, h5⟩ := optK_elim h5
      exact ⟨h1, h2, h3, h4, by rw [hu]; exact hk _ _ h5⟩
    · cases a <;> cases b <;> exact h
  case slice =>
    rcases xs with _ | ⟨a, r⟩
    · exact h
    · obtain ⟨p, hp, h⟩ := optK_elim h
      obtain ⟨q, hq, h⟩ := optK_elim h
      obtain ⟨s, hs, h1, h2⟩ := optK_elim h
      simp only [stepA, hp, optK, hq, hs]
      exact ⟨h1, sliceA_mono (fun x hh => hk x H hh) h2⟩
  case build =>
    obtain ⟨y, hy, h⟩ := optK_elim h
    simp only [stepA, hy, optK]
    exact hk _ _ h
  case eqs =>
    rcases xs with _ | ⟨a, _ | ⟨b, _ | ⟨c, r⟩⟩⟩
    · exact h
    · cases a <;> exact h
    · cases a <;> cases b <;> try exact h
      obtain ⟨y, hy, h⟩ := optK_elim h
      simp only [stepA, hy, optK]
      exact hk _ _ h
    · cases a <;> cases b <;> exact h
  case toStr =>
    rcases xs with _ | ⟨a, _ | ⟨b, r⟩⟩
    · exact h
    · obtain ⟨h1, h2, bs, h3, h4⟩ := h
      exact ⟨h1, h2, bs, h3, hk _ _ h4⟩
    · exact h
  case un op =>
    rcases xs with _ | ⟨a, _ | ⟨b, r⟩⟩
    · exact h
    · cases op <;> cases a <;> simp only [stepA] at h ⊢ <;> first | exact h | exact hk _ _ h
    · exact h
  case len s => cases s <;> rcases xs with _ | ⟨a, _ | ⟨b, r⟩⟩ <;> (try (cases a)) <;> simp only [stepA] at h ⊢ <;> (first | exact h | exact hk _ _ h | exact ⟨h.1, hk _ _ (h.2)⟩ | exact ⟨h.1, h.2.1, hk _ _ (h.2.2)⟩ | exact ⟨h.1, h.2.1, h.2.2.1, hk _ _ (h.2.2.2)⟩ | exact ⟨h.1, h.2.1, h.2.2.1, h.2.2.2.1, hk _ _ (h.2.2.2.2)⟩ | exact ⟨h.1, h.2.1, h.2.2.1, h.2.2.2.1, h.2.2.2.2.1, hk _ _ (h.2.2.2.2.2)⟩ | exact ⟨h.1, h.2.1, h.2.2.1, h.2.2.2.1, h.2.2.2.2.1, h.2.2.2.2.2.1, hk _ _ (h.2.2.2.2.2.2)⟩ | exact ⟨h.1, h.2.1, h.2.2.1, h.2.2.2.1, h.2.2.2.2.1, h.2.2.2.2.2.1, h.2.2.2.2.2.2.1, hk _ _ (h.2.2.2.2.2.2.2)⟩)
  case mv => rcases xs with _ | ⟨a, _ | ⟨b, r⟩⟩ <;> first | exact h | exact hk _ _ h
  case mkFunc => exact hk _ _ h
  case pick => rcases xs with _ | ⟨a, _ | ⟨b, _ | ⟨c, _ | ⟨d, r⟩⟩⟩⟩ <;> (first | exact h | (cases a <;> first | exact h | exact hk _ _ h))
  case nilCheck => rcases xs with _ | ⟨a, _ | ⟨b, r⟩⟩ <;> (first | exact h | (cases a <;> first | exact h | (simp only [stepA] at h ⊢; (first | exact h | exact hk _ _ h | exact ⟨h.1, hk _ _ (h.2)⟩ | exact ⟨h.1, h.2.1, hk _ _ (h.2.2)⟩ | exact ⟨h.1, h.2.1, h.2.2.1, hk _ _ (h.2.2.2)⟩ | exact ⟨h.1, h.2.1, h.2.2.1, h.2.2.2.1, hk _ _ (h.2.2.2.2)⟩ | exact ⟨h.1, h.2.1, h.2.2.1, h.2.2.2.1, h.2.2.2.2.1, hk _ _ (h.2.2.2.2.2)⟩ | exact ⟨h.1, h.2.1, h.2.2.1, h.2.2.2.1, h.2.2.2.2.1, h.2.2.2.2.2.1, hk _ _ (h.2.2.2.2.2.2)⟩ | exact ⟨h.1, h.2.1, h.2.2.1, h.2.2.2.1, h.2.2.2.2.1, h.2.2.2.2.2.1, h.2.2.2.2.2.2.1, hk _ _ (h.2.2.2.2.2.2.2)⟩))))
  case conv => rcases xs with _ | ⟨a, _ | ⟨b, r⟩⟩ <;> (first | exact h | (cases a <;> first | exact h | (simp only [stepA] at h ⊢; (first | exact h | exact hk _ _ h | exact ⟨h.1, hk _ _ (h.2)⟩ | exact ⟨h.1, h.2.1, hk _ _ (h.2.2)⟩ | exact ⟨h.1, h.2.1, h.2.2.1, hk _ _ (h.2.2.2)⟩ | exact ⟨h.1, h.2.1, h.2.2.1, h.2.2.2.1, hk _ _ (h.2.2.2.2)⟩ | exact ⟨h.1, h.2.1, h.2.2.1, h.2.2.2.1, h.2.2.2.2.1, hk _ _ (h.2.2.2.2.2)⟩ | exact ⟨h.1, h.2.1, h.2.2.1, h.2.2.2.1, h.2.2.2.2.1, h.2.2.2.2.2.1, hk _ _ (h.2.2.2.2.2.2)⟩ | exact ⟨h.1, h.2.1, h.2.2.1, h.2.2.2.1, h.2.2.2.2.1, h.2.2.2.2.2.1, h.2.2.2.2.2.2.1, hk _ _ (h.2.2.2.2.2.2.2)⟩))))
  case load => rcases xs with _ | ⟨a, _ | ⟨b, r⟩⟩ <;> (first | exact h | (cases a <;> first | exact h | (simp only [stepA] at h ⊢; (first | exact h | exact hk _ _ h | exact ⟨h.1, hk _ _ (h.2)⟩ | exact ⟨h.1, h.2.1, hk _ _ (h.2.2)⟩ | exact ⟨h.1, h.2.1, h.2.2.1, hk _ _ (h.2.2.2)⟩ | exact ⟨h.1, h.2.1, h.2.2.1, h.2.2.2.1, hk _ _ (h.2.2.2.2)⟩ | exact ⟨h.1, h.2.1, h.2.2.1, h.2.2.2.1, h.2.2.2.2.1, hk _ _ (h.2.2.2.2.2)⟩ | exact ⟨h.1, h.2.1, h.2.2.1, h.2.2.2.1, h.2.2.2.2.1, h.2.2.2.2.2.1, hk _ _ (h.2.2.2.2.2.2)⟩ | exact ⟨h.1, h.2.1, h.2.2.1, h.2.2.2.1, h.2.2.2.2.1, h.2.2.2.2.2.1, h.2.2.2.2.2.2.1, hk _ _ (h.2.2.2.2.2.2.2)⟩))))
  case faddr => rcases xs with _ | ⟨a, _ | ⟨b, r⟩⟩ <;> (first | exact h | (cases a <;> first | exact h | (simp only [stepA] at h ⊢; (first | exact h | exact hk _ _ h | exact ⟨h.1, hk _ _ (h.2)⟩ | exact ⟨h.1, h.2.1, hk _ _ (h.2.2)⟩ | exact ⟨h.1, h.2.1, h.2.2.1, hk _ _ (h.2.2.2)⟩ | exact ⟨h.1, h.2.1, h.2.2.1, h.2.2.2.1, hk _ _ (h.2.2.2.2)⟩ | exact ⟨h.1, h.2.1, h.2.2.1, h.2.2.2.1, h.2.2.2.2.1, hk _ _ (h.2.2.2.2.2)⟩ | exact ⟨h.1, h.2.1, h.2.2.1, h.2.2.2.1, h.2.2.2.2.1, h.2.2.2.2.2.1, hk _ _ (h.2.2.2.2.2.2)⟩ | exact ⟨h.1, h.2.1, h.2.2.1, h.2.2.2.1, h.2.2.2.2.1, h.2.2.2.2.2.1, h.2.2.2.2.2.2.1, hk _ _ (h.2.2.2.2.2.2.2)⟩))))
  case field => rcases xs with _ | ⟨a, _ | ⟨b, r⟩⟩ <;> (first | exact h | (cases a <;> first | exact h | (simp only [stepA] at h ⊢; (first | exact h | exact hk _ _ h | exact ⟨h.1, hk _ _ (h.2)⟩ | exact ⟨h.1, h.2.1, hk _ _ (h.2.2)⟩ | exact ⟨h.1, h.2.1, h.2.2.1, hk _ _ (h.2.2.2)⟩ | exact ⟨h.1, h.2.1, h.2.2.1, h.2.2.2.1, hk _ _ (h.2.2.2.2)⟩ | exact ⟨h.1, h.2.1, h.2.2.1, h.2.2.2.1, h.2.2.2.2.1, hk _ _ (h.2.2.2.2.2)⟩ | exact ⟨h.1, h.2.1, h.2.2.1, h.2.2.2.1, h.2.2.2.2.1, h.2.2.2.2.2.1, hk _ _ (h.2.2.2.2.2.2)⟩ | exact ⟨h.1, h.2.1, h.2.2.1, h.2.2.2.1, h.2.2.2.2.1, h.2.2.2.2.2.1, h.2.2.2.2.2.2.1, hk _ _ (h.2.2.2.2.2.2.2)⟩))))
  case extract => rcases xs with _ | ⟨a, _ | ⟨b, r⟩⟩ <;> (first | exact h | (cases a <;> first | exact h | (simp only [stepA] at h ⊢; (first | exact h | exact hk _ _ h | exact ⟨h.1, hk _ _ (h.2)⟩ | exact ⟨h.1, h.2.1, hk _ _ (h.2.2)⟩ | exact ⟨h.1, h.2.1, h.2.2.1, hk _ _ (h.2.2.2)⟩ | exact ⟨h.1, h.2.1, h.2.2.1, h.2.2.2.1, hk _ _ (h.2.2.2.2)⟩ | exact ⟨h.1, h.2.1, h.2.2.1, h.2.2.2.1, h.2.2.2.2.1, hk _ _ (h.2.2.2.2.2)⟩ | exact ⟨h.1, h.2.1, h.2.2.1, h.2.2.2.1, h.2.2.2.2.1, h.2.2.2.2.2.1, hk _ _ (h.2.2.2.2.2.2)⟩ | exact ⟨h.1, h.2.1, h.2.2.1, h.2.2.2.1, h.2.2.2.2.1, h.2.2.2.2.2.1, h.2.2.2.2.2.2.1, hk _ _ (h.2.2.2.2.2.2.2)⟩))))
  case eqb => rcases xs with _ | ⟨a, _ | ⟨b, _ | ⟨c, r⟩⟩⟩ <;> (first | exact h | (cases a <;> first | exact h | (cases b <;> first | exact h | (simp only [stepA] at h ⊢; (first | exact h | exact hk _ _ h | exact ⟨h.1, hk _ _ (h.2)⟩ | exact ⟨h.1, h.2.1, hk _ _ (h.2.2)⟩ | exact ⟨h.1, h.2.1, h.2.2.1, hk _ _ (h.2.2.2)⟩ | exact ⟨h.1, h.2.1, h.2.2.1, h.2.2.2.1, hk _ _ (h.2.2.2.2)⟩ | exact ⟨h.1, h.2.1, h.2.2.1, h.2.2.2.1, h.2.2.2.2.1, hk _ _ (h.2.2.2.2.2)⟩ | exact ⟨h.1, h.2.1, h.2.2.1, h.2.2.2.1, h.2.2.2.2.1, h.2.2.2.2.2.1, hk _ _ (h.2.2.2.2.2.2)⟩ | exact ⟨h.1, h.2.1, h.2.2.1, h.2.2.2.1, h.2.2.2.2.1, h.2.2.2.2.2.1, h.2.2.2.2.2.2.1, hk _ _ (h.2.2.2.2.2.2.2)⟩)))))
  case iaddr => rcases xs with _ | ⟨a, _ | ⟨b, _ | ⟨c, r⟩⟩⟩ <;> (first | exact h | (cases a <;> first | exact h | (cases b <;> first | exact h | (simp only [stepA] at h ⊢; (first | exact h | exact hk _ _ h | exact ⟨h.1, hk _ _ (h.2)⟩ | exact ⟨h.1, h.2.1, hk _ _ (h.2.2)⟩ | exact ⟨h.1, h.2.1, h.2.2.1, hk _ _ (h.2.2.2)⟩ | exact ⟨h.1, h.2.1, h.2.2.1, h.2.2.2.1, hk _ _ (h.2.2.2.2)⟩ | exact ⟨h.1, h.2.1, h.2.2.1, h.2.2.2.1, h.2.2.2.2.1, hk _ _ (h.2.2.2.2.2)⟩ | exact ⟨h.1, h.2.1, h.2.2.1, h.2.2.2.1, h.2.2.2.2.1, h.2.2.2.2.2.1, hk _ _ (h.2.2.2.2.2.2)⟩ | exact ⟨h.1, h.2.1, h.2.2.1, h.2.2.2.1, h.2.2.2.2.1, h.2.2.2.2.2.1, h.2.2.2.2.2.2.1, hk _ _ (h.2.2.2.2.2.2.2)⟩)))))
  case iaddrA => rcases xs with _ | ⟨a, _ | ⟨b, _ | ⟨c, r⟩⟩⟩ <;> (first | exact h | (cases a <;> first | exact h | (cases b <;> first | exact h | (simp only [stepA] at h ⊢; (first | exact h | exact hk _ _ h | exact ⟨h.1, hk _ _ (h.2)⟩ | exact ⟨h.1, h.2.1, hk _ _ (h.2.2)⟩ | exact ⟨h.1, h.2.1, h.2.2.1, hk _ _ (h.2.2.2)⟩ | exact ⟨h.1, h.2.1, h.2.2.1, h.2.2.2.1, hk _ _ (h.2.2.2.2)⟩ | exact ⟨h.1, h.2.1, h.2.2.1, h.2.2.2.1, h.2.2.2.2.1, hk _ _ (h.2.2.2.2.2)⟩ | exact ⟨h.1, h.2.1, h.2.2.1, h.2.2.2.1, h.2.2.2.2.1, h.2.2.2.2.2.1, hk _ _ (h.2.2.2.2.2.2)⟩ | exact ⟨h.1, h.2.1, h.2.2.1, h.2.2.2.1, h.2.2.2.2.1, h.2.2.2.2.2.1, h.2.2.2.2.2.2.1, hk _ _ (h.2.2.2.2.2.2.2)⟩)))))
  case index => rcases xs with _ | ⟨a, _ | ⟨b, _ | ⟨c, r⟩⟩⟩ <;> (first | exact h | (cases a <;> first | exact h | (cases b <;> first | exact h | (simp only [stepA] at h ⊢; (first | exact h | exact hk _ _ h | exact ⟨h.1, hk _ _ (h.2)⟩ | exact ⟨h.1, h.2.1, hk _ _ (h.2.2)⟩ | exact ⟨h.1, h.2.1, h.2.2.1, hk _ _ (h.2.2.2)⟩ | exact ⟨h.1, h.2.1, h.2.2.1, h.2.2.2.1, hk _ _ (h.2.2.2.2)⟩ | exact ⟨h.1, h.2.1, h.2.2.1, h.2.2.2.1, h.2.2.2.2.1, hk _ _ (h.2.2.2.2.2)⟩ | exact ⟨h.1, h.2.1, h.2.2.1, h.2.2.2.1, h.2.2.2.2.1, h.2.2.2.2.2.1, hk _ _ (h.2.2.2.2.2.2)⟩ | exact ⟨h.1, h.2.1, h.2.2.1, h.2.2.2.1, h.2.2.2.2.1, h.2.2.2.2.2.1, h.2.2.2.2.2.2.1, hk _ _ (h.2.2.2.2.2.2.2)⟩)))))
  case indexStr => rcases xs with _ | ⟨a, _ | ⟨b, _ | ⟨c, r⟩⟩⟩ <;> (first | exact h | (cases a <;> first | exact h | (cases b <;> first | exact h | (simp only [stepA] at h ⊢; (first | exact h | exact hk _ _ h | exact ⟨h.1, hk _ _ (h.2)⟩ | exact ⟨h.1, h.2.1, hk _ _ (h.2.2)⟩ | exact ⟨h.1, h.2.1, h.2.2.1, hk _ _ (h.2.2.2)⟩ | exact ⟨h.1, h.2.1, h.2.2.1, h.2.2.2.1, hk _ _ (h.2.2.2.2)⟩ | exact ⟨h.1, h.2.1, h.2.2.1, h.2.2.2.1, h.2.2.2.2.1, hk _ _ (h.2.2.2.2.2)⟩ | exact ⟨h.1, h.2.1, h.2.2.1, h.2.2.2.1, h.2.2.2.2.1, h.2.2.2.2.2.1, hk _ _ (h.2.2.2.2.2.2)⟩ | exact ⟨h.1, h.2.1, h.2.2.1, h.2.2.2.1, h.2.2.2.2.1, h.2.2.2.2.2.1, h.2.2.2.2.2.2.1, hk _ _ (h.2.2.2.2.2.2.2)⟩)))))
  case max => rcases xs with _ | ⟨a, _ | ⟨b, _ | ⟨c, r⟩⟩⟩ <;> (first | exact h | (cases a <;> first | exact h | (cases b <;> first | exact h | (simp only [stepA] at h ⊢; (first | exact h | exact hk _ _ h | exact ⟨h.1, hk _ _ (h.2)⟩ | exact ⟨h.1, h.2.1, hk _ _ (h.2.2)⟩ | exact ⟨h.1, h.2.1, h.2.2.1, hk _ _ (h.2.2.2)⟩ | exact ⟨h.1, h.2.1, h.2.2.1, h.2.2.2.1, hk _ _ (h.2.2.2.2)⟩ | exact ⟨h.1, h.2.1, h.2.2.1, h.2.2.2.1, h.2.2.2.2.1, hk _ _ (h.2.2.2.2.2)⟩ | exact ⟨h.1, h.2.1, h.2.2.1, h.2.2.2.1, h.2.2.2.2.1, h.2.2.2.2.2.1, hk _ _ (h.2.2.2.2.2.2)⟩ | exact ⟨h.1, h.2.1, h.2.2.1, h.2.2.2.1, h.2.2.2.2.1, h.2.2.2.2.2.1, h.2.2.2.2.2.2.1, hk _ _ (h.2.2.2.2.2.2.2)⟩)))))
  case min => rcases xs with _ | ⟨a, _ | ⟨b, _ | ⟨c, r⟩⟩⟩ <;> (first | exact h | (cases a <;> first | exact h | (cases b <;> first | exact h | (simp only [stepA] at h ⊢; (first | exact h | exact hk _ _ h | exact ⟨h.1, hk _ _ (h.2)⟩ | exact ⟨h.1, h.2.1, hk _ _ (h.2.2)⟩ | exact ⟨h.1, h.2.1, h.2.2.1, hk _ _ (h.2.2.2)⟩ | exact ⟨h.1, h.2.1, h.2.2.1, h.2.2.2.1, hk _ _ (h.2.2.2.2)⟩ | exact ⟨h.1, h.2.1, h.2.2.1, h.2.2.2.1, h.2.2.2.2.1, hk _ _ (h.2.2.2.2.2)⟩ | exact ⟨h.1, h.2.1, h.2.2.1, h.2.2.2.1, h.2.2.2.2.1, h.2.2.2.2.2.1, hk _ _ (h.2.2.2.2.2.2)⟩ | exact ⟨h.1, h.2.1, h.2.2.1, h.2.2.2.1, h.2.2.2.2.1, h.2.2.2.2.2.1, h.2.2.2.2.2.2.1, hk _ _ (h.2.2.2.2.2.2.2)⟩)))))
  case eqn => rcases xs with _ | ⟨a, _ | ⟨b, _ | ⟨c, r⟩⟩⟩ <;> (first | exact h | (cases a <;> exact h) | (cases b <;> first | exact h | (cases a <;> first | exact h | (simp only [stepA] at h ⊢; (first | exact h | exact hk _ _ h | exact ⟨h.1, hk _ _ (h.2)⟩ | exact ⟨h.1, h.2.1, hk _ _ (h.2.2)⟩ | exact ⟨h.1, h.2.1, h.2.2.1, hk _ _ (h.2.2.2)⟩ | exact ⟨h.1, h.2.1, h.2.2.1, h.2.2.2.1, hk _ _ (h.2.2.2.2)⟩ | exact ⟨h.1, h.2.1, h.2.2.1, h.2.2.2.1, h.2.2.2.2.1, hk _ _ (h.2.2.2.2.2)⟩ | exact ⟨h.1, h.2.1, h.2.2.1, h.2.2.2.1, h.2.2.2.2.1, h.2.2.2.2.2.1, hk _ _ (h.2.2.2.2.2.2)⟩ | exact ⟨h.1, h.2.1, h.2.2.1, h.2.2.2.1, h.2.2.2.2.1, h.2.2.2.2.2.1, h.2.2.2.2.2.2.1, hk _ _ (h.2.2.2.2.2.2.2)⟩)))))

/-- A quiet operation, in whatever order it comes: a call gives its answer in every heap. -/
def QG (P : Program) (k : AK) (l : List Grp) (xs : List AV) (x : AV) : Prop :=
  (∃ f caps ys, k = .call ∧ xs = .fn f caps :: ys ∧ ∀ H, ACalls P f (ys ++ caps) H fun y H' => y = x ∧ H' = H) ∨
  (∃ w len z idx, k = .bslice w len z idx ∧ FitAll w len idx xs ∧ 0 < w ∧ pureL (setAll idx xs (List.replicate len z)) = true ∧ x = .full w (setAll idx xs (List.replicate len z))) ∨
  (k.still = true ∧ onRefs (· < l.length) xs ∧ stepA P k (hl l) xs fun y _ => y = x)
theorem QG.qy {k : AK} {l : List Grp} {xs : List AV} {x : AV} (h : QG P k l xs x) : QY P k (hl l) xs x := by
  rcases h with ⟨f, caps, ys, h1, h2, h3⟩ | h | ⟨h1, _, h3⟩
  · exact .inl ⟨f, caps, ys, h1, h2, h3 _⟩
  · exact .inr (.inl h)
  · obtain ⟨x', h4, rfl⟩ := still_one h1 h3
    exact .inr (.inr ⟨h1, h4⟩)

/-- How an effect turns the heap. -/
inductive Turn (l : List Grp) : List Grp → Prop where
  | push (G : Grp) : Turn l (l ++ [G])
  | store (g : Nat) (G : Grp) (h : g < l.length) (a : G.ver = (l.getD g default).ver) (b : G.w = (l.getD g default).w) (c : G.exact = (l.getD g default).exact) (d : G.xs.length = (l.getD g default).xs.length) : Turn l (l.set g G)
theorem hl_at (l : List Grp) (g : Nat) : (hl l).at_ g = l.getD g default := (rfl)
theorem QG.push {k : AK} {l : List Grp} {xs : List AV} {x : AV} (G : Grp) (h : QG P k l xs x) : QG P k (l ++ [G]) xs x := by
  rcases h with h | h | ⟨h1, h2, h3⟩
  · exact .inl h
  · exact .inr (.inl h)
  · refine .inr (.inr ⟨h1, onRefs_mono (fun g hg => by rw [List.length_append]; omega) h2, still_same h1 (onRefs_mono (fun g hg => ?_) h2) h3⟩)
    rw [hl_at, hl_at]
    simp [List.getD, List.getElem?_append_left hg]
theorem QG.stored {k : AK} (hr : k.reads = false) {l : List Grp} {xs : List AV} {x : AV} {g : Nat} {G : Grp} (hg : g < l.length) (a : G.ver = (l.getD g default).ver) (b : G.w = (l.getD g default).w) (c : G.exact = (l.getD g default).exact) (d : G.xs.length = (l.getD g default).xs.length)
    (h : QG P k l xs x) : QG P k (l.set g G) xs x := by
  rcases h with h | h | ⟨h1, h2, h3⟩
  · exact .inl h
  · exact .inr (.inl h)
  · refine .inr (.inr ⟨h1, by rw [List.length_set]; exact h2, still_alike h1 hr (onRefs_mono (fun j hj => ?_) h2) h3⟩)
    by_cases hjg : j = g
    · subst hjg
      constructor <;> rw [hl_at, hl_at] <;> simp [List.getD, hg] at a b c d ⊢ <;> assumption
    · refine Alike.of_eq ?_
      rw [hl_at, hl_at]
      simp [List.getD, List.getElem?_set_ne (Ne.symm hjg)]

set_option maxHeartbeats 4000000 in
theorem QG.blind {k : AK} (hb : k.blind = true) {l l' : List Grp} (hlen : l.length ≤ l'.length) {xs : List AV} {x : AV} (h : QG P k l xs x) : QG P k l' xs x := by
  rcases h with h | h | ⟨h1, h2, h3⟩
  · exact .inl h
  · exact .inr (.inl h)
  · refine .inr (.inr ⟨h1, onRefs_mono (fun g hg => by omega) h2, ?_⟩)
    cases k <;> simp only [AK.still, AK.blind, reduceCtorEq] at h1 hb
    case mv => rcases xs with _ | ⟨a, _ | ⟨b, r⟩⟩ <;> exact h3
    case pick => rcases xs with _ | ⟨a, _ | ⟨b, _ | ⟨c, _ | ⟨d, r⟩⟩⟩⟩ <;> first | exact h3 | (cases a <;> exact h3)
    case build => exact h3
    case nilCheck => rcases xs with _ | ⟨a, _ | ⟨b, r⟩⟩ <;> first | exact h3 | (cases a <;> exact h3)
    case bin => rcases xs with _ | ⟨a, _ | ⟨b, _ | ⟨c, r⟩⟩⟩ <;> first | exact h3 | (cases a <;> exact h3) | (cases a <;> cases b <;> exact h3)
    case eqb => rcases xs with _ | ⟨a, _ | ⟨b, _ | ⟨c, r⟩⟩⟩ <;> first | exact h3 | (cases a <;> exact h3) | (cases a <;> cases b <;> exact h3)
    case eqs => rcases xs with _ | ⟨a, _ | ⟨b, _ | ⟨c, r⟩⟩⟩ <;> first | exact h3 | (cases a <;> exact h3) | (cases a <;> cases b <;> exact h3)
    case eqn => rcases xs with _ | ⟨a, _ | ⟨b, _ | ⟨c, r⟩⟩⟩ <;> first | exact h3 | (cases a <;> exact h3) | (cases b <;> first | exact h3 | (cases a <;> exact h3))
    case un => rcases xs with _ | ⟨a, _ | ⟨b, r⟩⟩ <;> exact h3
    case conv => rcases xs with _ | ⟨a, _ | ⟨b, r⟩⟩ <;> first | exact h3 | (cases a <;> exact h3)
    case field => rcases xs with _ | ⟨a, _ | ⟨b, r⟩⟩ <;> first | exact h3 | (cases a <;> exact h3)
    case index => rcases xs with _ | ⟨a, _ | ⟨b, _ | ⟨c, r⟩⟩⟩ <;> first | exact h3 | (cases a <;> exact h3) | (cases a <;> cases b <;> exact h3)
    case indexStr => rcases xs with _ | ⟨a, _ | ⟨b, _ | ⟨c, r⟩⟩⟩ <;> first | exact h3 | (cases a <;> exact h3) | (cases a <;> cases b <;> exact h3)
    case extract => rcases xs with _ | ⟨a, _ | ⟨b, r⟩⟩ <;> first | exact h3 | (cases a <;> exact h3)
    case len s => cases s <;> rcases xs with _ | ⟨a, _ | ⟨b, r⟩⟩ <;> first | exact h3 | (cases a <;> exact h3)
    case max => rcases xs with _ | ⟨a, _ | ⟨b, _ | ⟨c, r⟩⟩⟩ <;> first | exact h3 | (cases a <;> exact h3) | (cases a <;> cases b <;> exact h3)
    case min => rcases xs with _ | ⟨a, _ | ⟨b, _ | ⟨c, r⟩⟩⟩ <;> first | exact h3 | (cases a <;> exact h3) | (cases a <;> cases b <;> exact h3)
    case mkFunc => exact h3
end
end Go.Proofs.Ytdmjhlofphhldaa.Abs
