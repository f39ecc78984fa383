/-
  A region whose order is drawn, all of whose operations change no group: one walk in the order of the text serves every order.
-/
import Derived.Test.YtdmjhlofphhldaaAbs11
set_option linter.unusedSimpArgs false
set_option linter.unusedVariables false
namespace Go.Proofs.Ytdmjhlofphhldaa.Abs
section
variable {P : Program} {H : AHeap} {n : Nat} {ops : Array Oper} {md : Region.Mode} {rd : Option Nat} {mm : Nat}

/-- An operation that yields x, and changes no group. -/
def QY (P : Program) (k : AK) (H : AHeap) (xs : List AV) (x : AV) : Prop :=
  (∃ f caps ys, k = .call ∧ xs = .fn f caps :: ys ∧ ACalls P f (ys ++ caps) H fun y H' => y = x ∧ H' = H) ∨
  (∃ w len z idx, k = .bslice w len z idx ∧ FitAll w len idx xs ∧ 0 < w ∧ pureL (setAll idx xs (List.replicate len z)) = true ∧ x = .full w (setAll idx xs (List.replicate len z))) ∨
  (k.still = true ∧ stepA P k H xs fun y H' => y = x ∧ H' = H)

theorem binI_one {op : BinOp} {k : IntKind} {a b : Int} {K : AV → Prop} (h : binI op k a b K) : ∃ x, binI op k a b (fun y => y = x) ∧ K x := by
  cases op <;> simp only [binI] at h ⊢
  case quo => exact ⟨_, ⟨h.1, rfl⟩, h.2⟩
  case rem => exact ⟨_, ⟨h.1, rfl⟩, h.2⟩
  all_goals exact ⟨_, rfl, h⟩

theorem sliceA_one {w : Nat} {x : AV} {lo hi mx : Option Int} {K : AV → Prop} (h : sliceA w x lo hi mx H K) : ∃ y, sliceA w x lo hi mx H (fun z => z = y) ∧ K y := by
  cases mx with
  | some m =>
    simp only [sliceA] at h ⊢
    obtain ⟨h1, h2, h3, h4⟩ := h
    cases x <;> simp only at h4 <;> try exact h4.elim
    all_goals exact ⟨_, ⟨h1, h2, h3, rfl⟩, h4⟩
  | none =>
    cases x <;> simp only [sliceA] at h ⊢ <;> try exact h.elim
    · exact ⟨_, ⟨h.1, h.2.1, rfl⟩, h.2.2⟩
    · exact ⟨_, ⟨h.1, h.2.1, rfl⟩, h.2.2⟩
    · exact ⟨_, ⟨h.1, h.2.1, h.2.2.1, h.2.2.2.1, rfl⟩, h.2.2.2.2⟩
    · exact ⟨_, ⟨h.1, h.2.1, h.2.2.1, h.2.2.2.1, rfl⟩, h.2.2.2.2⟩
    · exact ⟨_, ⟨h.1, h.2.1, h.2.2.1, h.2.2.2.1, h.2.2.2.2.1, h.2.2.2.2.2.1, rfl⟩, h.2.2.2.2.2.2⟩

set_option maxHeartbeats 2000000 in
/-- A still operation yields one value, in the groups that it got. -/
theorem still_one {k : AK} (hk : k.still = true) {xs : List AV} {K : AV → Prop} (h : stepA P k H xs fun x _ => K x) : ∃ x, stepA P k H xs (fun y H' => y = x ∧ H' = H) ∧ K x := by
  cases k with
  | mv =>
    match xs, h with
    | [], h => simp [stepA] at h
    | _ :: _ :: _, h => simp [stepA] at h
    | [x], h =>
      exact ⟨_, And.intro rfl rfl, h⟩
  | pick =>
    match xs, h with
    | [], h => simp [stepA] at h
    | [_], h => simp [stepA] at h
    | [_, _], h => simp [stepA] at h
    | _ :: _ :: _ :: _ :: _, h => simp [stepA] at h
    | [x, y, z], h =>
      cases x <;> simp only [stepA] at h <;> try exact h.elim
      all_goals first | exact ⟨_, And.intro rfl rfl, h⟩ | exact ⟨_, And.intro h.1 (And.intro rfl rfl), h.2⟩ | exact ⟨_, And.intro h.1 (And.intro h.2.1 (And.intro rfl rfl)), h.2.2⟩ | exact ⟨_, And.intro h.1 (And.intro h.2.1 (And.intro h.2.2.1 (And.intro rfl rfl))), h.2.2.2⟩ | exact ⟨_, And.intro h.1 (And.intro h.2.1 (And.intro h.2.2.1 (And.intro h.2.2.2.1 (And.intro rfl rfl)))), h.2.2.2.2⟩ | exact ⟨_, And.intro h.1 (And.intro h.2.1 (And.intro h.2.2.1 (And.intro h.2.2.2.1 (And.intro h.2.2.2.2.1 (And.intro rfl rfl))))), h.2.2.2.2.2⟩ | exact ⟨_, And.intro h.1 (And.intro h.2.1 (And.intro h.2.2.1 (And.intro h.2.2.2.1 (And.intro h.2.2.2.2.1 (And.intro h.2.2.2.2.2.1 (And.intro rfl rfl)))))), h.2.2.2.2.2.2⟩ | exact ⟨_, And.intro h.1 (And.intro h.2.1 (And.intro h.2.2.1 (And.intro h.2.2.2.1 (And.intro h.2.2.2.2.1 (And.intro h.2.2.2.2.2.1 (And.intro h.2.2.2.2.2.2.1 (And.intro rfl rfl))))))), h.2.2.2.2.2.2.2⟩
  | build z pl idx =>
    obtain ⟨y, hy, h⟩ := optK_elim h
    refine ⟨.agg y, ?_, h⟩
    show optK _ _
    rw [hy]
    exact ⟨rfl, rfl⟩
  | load a s =>
    match xs, h with
    | [], h => simp [stepA] at h
    | _ :: _ :: _, h => simp [stepA] at h
    | [x], h =>
      cases x <;> simp only [stepA] at h <;> try exact h.elim
      all_goals first | exact ⟨_, And.intro rfl rfl, h⟩ | exact ⟨_, And.intro h.1 (And.intro rfl rfl), h.2⟩ | exact ⟨_, And.intro h.1 (And.intro h.2.1 (And.intro rfl rfl)), h.2.2⟩ | exact ⟨_, And.intro h.1 (And.intro h.2.1 (And.intro h.2.2.1 (And.intro rfl rfl))), h.2.2.2⟩ | exact ⟨_, And.intro h.1 (And.intro h.2.1 (And.intro h.2.2.1 (And.intro h.2.2.2.1 (And.intro rfl rfl)))), h.2.2.2.2⟩ | exact ⟨_, And.intro h.1 (And.intro h.2.1 (And.intro h.2.2.1 (And.intro h.2.2.2.1 (And.intro h.2.2.2.2.1 (And.intro rfl rfl))))), h.2.2.2.2.2⟩ | exact ⟨_, And.intro h.1 (And.intro h.2.1 (And.intro h.2.2.1 (And.intro h.2.2.2.1 (And.intro h.2.2.2.2.1 (And.intro h.2.2.2.2.2.1 (And.intro rfl rfl)))))), h.2.2.2.2.2.2⟩ | exact ⟨_, And.intro h.1 (And.intro h.2.1 (And.intro h.2.2.1 (And.intro h.2.2.2.1 (And.intro h.2.2.2.2.1 (And.intro h.2.2.2.2.2.1 (And.intro h.2.2.2.2.2.2.1 (And.intro rfl rfl))))))), h.2.2.2.2.2.2.2⟩
  | nilCheck =>
    match xs, h with
    | [], h => simp [stepA] at h
    | _ :: _ :: _, h => simp [stepA] at h
    | [x], h =>
      cases x <;> simp only [stepA] at h <;> try exact h.elim
      all_goals first | exact ⟨_, And.intro rfl rfl, h⟩ | exact ⟨_, And.intro h.1 (And.intro rfl rfl), h.2⟩ | exact ⟨_, And.intro h.1 (And.intro h.2.1 (And.intro rfl rfl)), h.2.2⟩ | exact ⟨_, And.intro h.1 (And.intro h.2.1 (And.intro h.2.2.1 (And.intro rfl rfl))), h.2.2.2⟩ | exact ⟨_, And.intro h.1 (And.intro h.2.1 (And.intro h.2.2.1 (And.intro h.2.2.2.1 (And.intro rfl rfl)))), h.2.2.2.2⟩ | exact ⟨_, And.intro h.1 (And.intro h.2.1 (And.intro h.2.2.1 (And.intro h.2.2.2.1 (And.intro h.2.2.2.2.1 (And.intro rfl rfl))))), h.2.2.2.2.2⟩ | exact ⟨_, And.intro h.1 (And.intro h.2.1 (And.intro h.2.2.1 (And.intro h.2.2.2.1 (And.intro h.2.2.2.2.1 (And.intro h.2.2.2.2.2.1 (And.intro rfl rfl)))))), h.2.2.2.2.2.2⟩ | exact ⟨_, And.intro h.1 (And.intro h.2.1 (And.intro h.2.2.1 (And.intro h.2.2.2.1 (And.intro h.2.2.2.2.1 (And.intro h.2.2.2.2.2.1 (And.intro h.2.2.2.2.2.2.1 (And.intro rfl rfl))))))), h.2.2.2.2.2.2.2⟩
  | bin op =>
    match xs, h with
    | [], h => simp [stepA] at h
    | [_], h => simp [stepA] at h
    | _ :: _ :: _ :: _, h => simp [stepA] at h
    | [x, y], h =>
      cases x <;> cases y <;> simp only [stepA] at h <;> try exact h.elim
      · cases op
        case shl => exact ⟨_, And.intro h.1 (And.intro rfl rfl), h.2⟩
        case shr => exact ⟨_, And.intro h.1 (And.intro rfl rfl), h.2⟩
        all_goals
          obtain ⟨z, h1, h2⟩ := binI_one h.2
          refine ⟨z, And.intro h.1 ?_, h2⟩
          simpa only [and_true] using h1
      · cases op <;> first | exact h.elim | exact ⟨_, And.intro rfl rfl, h⟩
  | eqb neg =>
    match xs, h with
    | [], h => simp [stepA] at h
    | [_], h => simp [stepA] at h
    | _ :: _ :: _ :: _, h => simp [stepA] at h
    | [x, y], h =>
      cases x <;> cases y <;> simp only [stepA] at h <;> try exact h.elim
      all_goals first | exact ⟨_, And.intro rfl rfl, h⟩ | exact ⟨_, And.intro h.1 (And.intro rfl rfl), h.2⟩ | exact ⟨_, And.intro h.1 (And.intro h.2.1 (And.intro rfl rfl)), h.2.2⟩ | exact ⟨_, And.intro h.1 (And.intro h.2.1 (And.intro h.2.2.1 (And.intro rfl rfl))), h.2.2.2⟩ | exact ⟨_, And.intro h.1 (And.intro h.2.1 (And.intro h.2.2.1 (And.intro h.2.2.2.1 (And.intro rfl rfl)))), h.2.2.2.2⟩ | exact ⟨_, And.intro h.1 (And.intro h.2.1 (And.intro h.2.2.1 (And.intro h.2.2.2.1 (And.intro h.2.2.2.2.1 (And.intro rfl rfl))))), h.2.2.2.2.2⟩ | exact ⟨_, And.intro h.1 (And.intro h.2.1 (And.intro h.2.2.1 (And.intro h.2.2.2.1 (And.intro h.2.2.2.2.1 (And.intro h.2.2.2.2.2.1 (And.intro rfl rfl)))))), h.2.2.2.2.2.2⟩ | exact ⟨_, And.intro h.1 (And.intro h.2.1 (And.intro h.2.2.1 (And.intro h.2.2.2.1 (And.intro h.2.2.2.2.1 (And.intro h.2.2.2.2.2.1 (And.intro h.2.2.2.2.2.2.1 (And.intro rfl rfl))))))), h.2.2.2.2.2.2.2⟩
  | eqs neg ks =>
    match xs, h with
    | [], h => simp [stepA] at h
    | [_], h => simp [stepA] at h
    | _ :: _ :: _ :: _, h => simp [stepA] at h
    | [x, y], h =>
      cases x <;> cases y <;> simp only [stepA] at h <;> try exact h.elim
      obtain ⟨b, hb, h⟩ := optK_elim h
      refine ⟨.bool (if neg then !b else b), ?_, h⟩
      show optK _ _
      rw [hb]
      exact ⟨rfl, rfl⟩
  | eqn neg =>
    match xs, h with
    | [], h => simp [stepA] at h
    | [_], h => simp [stepA] at h
    | _ :: _ :: _ :: _, h => simp [stepA] at h
    | [x, y], h =>
      cases y <;> simp only [stepA] at h <;> try exact h.elim
      cases x <;> simp only at h <;> try exact h.elim
      all_goals first | exact ⟨_, And.intro rfl rfl, h⟩ | exact ⟨_, And.intro h.1 (And.intro rfl rfl), h.2⟩ | exact ⟨_, And.intro h.1 (And.intro h.2.1 (And.intro rfl rfl)), h.2.2⟩ | exact ⟨_, And.intro h.1 (And.intro h.2.1 (And.intro h.2.2.1 (And.intro rfl rfl))), h.2.2.2⟩ | exact ⟨_, And.intro h.1 (And.intro h.2.1 (And.intro h.2.2.1 (And.intro h.2.2.2.1 (And.intro rfl rfl)))), h.2.2.2.2⟩ | exact ⟨_, And.intro h.1 (And.intro h.2.1 (And.intro h.2.2.1 (And.intro h.2.2.2.1 (And.intro h.2.2.2.2.1 (And.intro rfl rfl))))), h.2.2.2.2.2⟩ | exact ⟨_, And.intro h.1 (And.intro h.2.1 (And.intro h.2.2.1 (And.intro h.2.2.2.1 (And.intro h.2.2.2.2.1 (And.intro h.2.2.2.2.2.1 (And.intro rfl rfl)))))), h.2.2.2.2.2.2⟩ | exact ⟨_, And.intro h.1 (And.intro h.2.1 (And.intro h.2.2.1 (And.intro h.2.2.2.1 (And.intro h.2.2.2.2.1 (And.intro h.2.2.2.2.2.1 (And.intro h.2.2.2.2.2.2.1 (And.intro rfl rfl))))))), h.2.2.2.2.2.2.2⟩
  | un op =>
    match xs, h with
    | [], h => simp [stepA] at h
    | _ :: _ :: _, h => simp [stepA] at h
    | [x], h =>
      cases op <;> cases x <;> simp only [stepA] at h <;> try exact h.elim
      all_goals first | exact ⟨_, And.intro rfl rfl, h⟩ | exact ⟨_, And.intro h.1 (And.intro rfl rfl), h.2⟩ | exact ⟨_, And.intro h.1 (And.intro h.2.1 (And.intro rfl rfl)), h.2.2⟩ | exact ⟨_, And.intro h.1 (And.intro h.2.1 (And.intro h.2.2.1 (And.intro rfl rfl))), h.2.2.2⟩ | exact ⟨_, And.intro h.1 (And.intro h.2.1 (And.intro h.2.2.1 (And.intro h.2.2.2.1 (And.intro rfl rfl)))), h.2.2.2.2⟩ | exact ⟨_, And.intro h.1 (And.intro h.2.1 (And.intro h.2.2.1 (And.intro h.2.2.2.1 (And.intro h.2.2.2.2.1 (And.intro rfl rfl))))), h.2.2.2.2.2⟩ | exact ⟨_, And.intro h.1 (And.intro h.2.1 (And.intro h.2.2.1 (And.intro h.2.2.2.1 (And.intro h.2.2.2.2.1 (And.intro h.2.2.2.2.2.1 (And.intro rfl rfl)))))), h.2.2.2.2.2.2⟩ | exact ⟨_, And.intro h.1 (And.intro h.2.1 (And.intro h.2.2.1 (And.intro h.2.2.2.1 (And.intro h.2.2.2.2.1 (And.intro h.2.2.2.2.2.1 (And.intro h.2.2.2.2.2.2.1 (And.intro rfl rfl))))))), h.2.2.2.2.2.2.2⟩
  | conv k =>
    match xs, h with
    | [], h => simp [stepA] at h
    | _ :: _ :: _, h => simp [stepA] at h
    | [x], h =>
      cases x <;> simp only [stepA] at h <;> try exact h.elim
      all_goals first | exact ⟨_, And.intro rfl rfl, h⟩ | exact ⟨_, And.intro h.1 (And.intro rfl rfl), h.2⟩ | exact ⟨_, And.intro h.1 (And.intro h.2.1 (And.intro rfl rfl)), h.2.2⟩ | exact ⟨_, And.intro h.1 (And.intro h.2.1 (And.intro h.2.2.1 (And.intro rfl rfl))), h.2.2.2⟩ | exact ⟨_, And.intro h.1 (And.intro h.2.1 (And.intro h.2.2.1 (And.intro h.2.2.2.1 (And.intro rfl rfl)))), h.2.2.2.2⟩ | exact ⟨_, And.intro h.1 (And.intro h.2.1 (And.intro h.2.2.1 (And.intro h.2.2.2.1 (And.intro h.2.2.2.2.1 (And.intro rfl rfl))))), h.2.2.2.2.2⟩ | exact ⟨_, And.intro h.1 (And.intro h.2.1 (And.intro h.2.2.1 (And.intro h.2.2.2.1 (And.intro h.2.2.2.2.1 (And.intro h.2.2.2.2.2.1 (And.intro rfl rfl)))))), h.2.2.2.2.2.2⟩ | exact ⟨_, And.intro h.1 (And.intro h.2.1 (And.intro h.2.2.1 (And.intro h.2.2.2.1 (And.intro h.2.2.2.2.1 (And.intro h.2.2.2.2.2.1 (And.intro h.2.2.2.2.2.2.1 (And.intro rfl rfl))))))), h.2.2.2.2.2.2.2⟩
  | slice w lo hi mx =>
    match xs, h with
    | [], h => simp [stepA] at h
    | x :: l, h =>
      obtain ⟨p, hp, h⟩ := optK_elim (show optK _ _ from h)
      obtain ⟨q, hq, h⟩ := optK_elim h
      obtain ⟨r, hr, hr2, h⟩ := optK_elim h
      obtain ⟨z, h1, h2⟩ := sliceA_one h
      refine ⟨z, ?_, h2⟩
      show optK (optA lo l) _
      rw [hp]
      show optK (optA hi p.2) _
      rw [hq]
      show optK (optA mx q.2) _
      rw [hr]
      exact ⟨hr2, by simpa only [and_true] using h1⟩
  | faddr a off s =>
    match xs, h with
    | [], h => simp [stepA] at h
    | _ :: _ :: _, h => simp [stepA] at h
    | [x], h =>
      cases x <;> simp only [stepA] at h <;> try exact h.elim
      all_goals first | exact ⟨_, And.intro rfl rfl, h⟩ | exact ⟨_, And.intro h.1 (And.intro rfl rfl), h.2⟩ | exact ⟨_, And.intro h.1 (And.intro h.2.1 (And.intro rfl rfl)), h.2.2⟩ | exact ⟨_, And.intro h.1 (And.intro h.2.1 (And.intro h.2.2.1 (And.intro rfl rfl))), h.2.2.2⟩ | exact ⟨_, And.intro h.1 (And.intro h.2.1 (And.intro h.2.2.1 (And.intro h.2.2.2.1 (And.intro rfl rfl)))), h.2.2.2.2⟩ | exact ⟨_, And.intro h.1 (And.intro h.2.1 (And.intro h.2.2.1 (And.intro h.2.2.2.1 (And.intro h.2.2.2.2.1 (And.intro rfl rfl))))), h.2.2.2.2.2⟩ | exact ⟨_, And.intro h.1 (And.intro h.2.1 (And.intro h.2.2.1 (And.intro h.2.2.2.1 (And.intro h.2.2.2.2.1 (And.intro h.2.2.2.2.2.1 (And.intro rfl rfl)))))), h.2.2.2.2.2.2⟩ | exact ⟨_, And.intro h.1 (And.intro h.2.1 (And.intro h.2.2.1 (And.intro h.2.2.2.1 (And.intro h.2.2.2.2.1 (And.intro h.2.2.2.2.2.1 (And.intro h.2.2.2.2.2.2.1 (And.intro rfl rfl))))))), h.2.2.2.2.2.2.2⟩
  | field a off s =>
    match xs, h with
    | [], h => simp [stepA] at h
    | _ :: _ :: _, h => simp [stepA] at h
    | [x], h =>
      cases x <;> simp only [stepA] at h <;> try exact h.elim
      all_goals first | exact ⟨_, And.intro rfl rfl, h⟩ | exact ⟨_, And.intro h.1 (And.intro rfl rfl), h.2⟩ | exact ⟨_, And.intro h.1 (And.intro h.2.1 (And.intro rfl rfl)), h.2.2⟩ | exact ⟨_, And.intro h.1 (And.intro h.2.1 (And.intro h.2.2.1 (And.intro rfl rfl))), h.2.2.2⟩ | exact ⟨_, And.intro h.1 (And.intro h.2.1 (And.intro h.2.2.1 (And.intro h.2.2.2.1 (And.intro rfl rfl)))), h.2.2.2.2⟩ | exact ⟨_, And.intro h.1 (And.intro h.2.1 (And.intro h.2.2.1 (And.intro h.2.2.2.1 (And.intro h.2.2.2.2.1 (And.intro rfl rfl))))), h.2.2.2.2.2⟩ | exact ⟨_, And.intro h.1 (And.intro h.2.1 (And.intro h.2.2.1 (And.intro h.2.2.2.1 (And.intro h.2.2.2.2.1 (And.intro h.2.2.2.2.2.1 (And.intro rfl rfl)))))), h.2.2.2.2.2.2⟩ | exact ⟨_, And.intro h.1 (And.intro h.2.1 (And.intro h.2.2.1 (And.intro h.2.2.2.1 (And.intro h.2.2.2.2.1 (And.intro h.2.2.2.2.2.1 (And.intro h.2.2.2.2.2.2.1 (And.intro rfl rfl))))))), h.2.2.2.2.2.2.2⟩
  | iaddr w =>
    match xs, h with
    | [], h => simp [stepA] at h
    | [_], h => simp [stepA] at h
    | _ :: _ :: _ :: _, h => simp [stepA] at h
    | [x, y], h =>
      cases x <;> cases y <;> simp only [stepA] at h <;> try exact h.elim
      all_goals first | exact ⟨_, And.intro rfl rfl, h⟩ | exact ⟨_, And.intro h.1 (And.intro rfl rfl), h.2⟩ | exact ⟨_, And.intro h.1 (And.intro h.2.1 (And.intro rfl rfl)), h.2.2⟩ | exact ⟨_, And.intro h.1 (And.intro h.2.1 (And.intro h.2.2.1 (And.intro rfl rfl))), h.2.2.2⟩ | exact ⟨_, And.intro h.1 (And.intro h.2.1 (And.intro h.2.2.1 (And.intro h.2.2.2.1 (And.intro rfl rfl)))), h.2.2.2.2⟩ | exact ⟨_, And.intro h.1 (And.intro h.2.1 (And.intro h.2.2.1 (And.intro h.2.2.2.1 (And.intro h.2.2.2.2.1 (And.intro rfl rfl))))), h.2.2.2.2.2⟩ | exact ⟨_, And.intro h.1 (And.intro h.2.1 (And.intro h.2.2.1 (And.intro h.2.2.2.1 (And.intro h.2.2.2.2.1 (And.intro h.2.2.2.2.2.1 (And.intro rfl rfl)))))), h.2.2.2.2.2.2⟩ | exact ⟨_, And.intro h.1 (And.intro h.2.1 (And.intro h.2.2.1 (And.intro h.2.2.2.1 (And.intro h.2.2.2.2.1 (And.intro h.2.2.2.2.2.1 (And.intro h.2.2.2.2.2.2.1 (And.intro rfl rfl))))))), h.2.2.2.2.2.2.2⟩
  | iaddrA n w a =>
    match xs, h with
    | [], h => simp [stepA] at h
    | [_], h => simp [stepA] at h
    | _ :: _ :: _ :: _, h => simp [stepA] at h
    | [x, y], h =>
      cases x <;> cases y <;> simp only [stepA] at h <;> try exact h.elim
      all_goals first | exact ⟨_, And.intro rfl rfl, h⟩ | exact ⟨_, And.intro h.1 (And.intro rfl rfl), h.2⟩ | exact ⟨_, And.intro h.1 (And.intro h.2.1 (And.intro rfl rfl)), h.2.2⟩ | exact ⟨_, And.intro h.1 (And.intro h.2.1 (And.intro h.2.2.1 (And.intro rfl rfl))), h.2.2.2⟩ | exact ⟨_, And.intro h.1 (And.intro h.2.1 (And.intro h.2.2.1 (And.intro h.2.2.2.1 (And.intro rfl rfl)))), h.2.2.2.2⟩ | exact ⟨_, And.intro h.1 (And.intro h.2.1 (And.intro h.2.2.1 (And.intro h.2.2.2.1 (And.intro h.2.2.2.2.1 (And.intro rfl rfl))))), h.2.2.2.2.2⟩ | exact ⟨_, And.intro h.1 (And.intro h.2.1 (And.intro h.2.2.1 (And.intro h.2.2.2.1 (And.intro h.2.2.2.2.1 (And.intro h.2.2.2.2.2.1 (And.intro rfl rfl)))))), h.2.2.2.2.2.2⟩ | exact ⟨_, And.intro h.1 (And.intro h.2.1 (And.intro h.2.2.1 (And.intro h.2.2.2.1 (And.intro h.2.2.2.2.1 (And.intro h.2.2.2.2.2.1 (And.intro h.2.2.2.2.2.2.1 (And.intro rfl rfl))))))), h.2.2.2.2.2.2.2⟩
  | index n w a =>
    match xs, h with
    | [], h => simp [stepA] at h
    | [_], h => simp [stepA] at h
    | _ :: _ :: _ :: _, h => simp [stepA] at h
    | [x, y], h =>
      cases x <;> cases y <;> simp only [stepA] at h <;> try exact h.elim
      all_goals first | exact ⟨_, And.intro rfl rfl, h⟩ | exact ⟨_, And.intro h.1 (And.intro rfl rfl), h.2⟩ | exact ⟨_, And.intro h.1 (And.intro h.2.1 (And.intro rfl rfl)), h.2.2⟩ | exact ⟨_, And.intro h.1 (And.intro h.2.1 (And.intro h.2.2.1 (And.intro rfl rfl))), h.2.2.2⟩ | exact ⟨_, And.intro h.1 (And.intro h.2.1 (And.intro h.2.2.1 (And.intro h.2.2.2.1 (And.intro rfl rfl)))), h.2.2.2.2⟩ | exact ⟨_, And.intro h.1 (And.intro h.2.1 (And.intro h.2.2.1 (And.intro h.2.2.2.1 (And.intro h.2.2.2.2.1 (And.intro rfl rfl))))), h.2.2.2.2.2⟩ | exact ⟨_, And.intro h.1 (And.intro h.2.1 (And.intro h.2.2.1 (And.intro h.2.2.2.1 (And.intro h.2.2.2.2.1 (And.intro h.2.2.2.2.2.1 (And.intro rfl rfl)))))), h.2.2.2.2.2.2⟩ | exact ⟨_, And.intro h.1 (And.intro h.2.1 (And.intro h.2.2.1 (And.intro h.2.2.2.1 (And.intro h.2.2.2.2.1 (And.intro h.2.2.2.2.2.1 (And.intro h.2.2.2.2.2.2.1 (And.intro rfl rfl))))))), h.2.2.2.2.2.2.2⟩
  | indexStr =>
    match xs, h with
    | [], h => simp [stepA] at h
    | [_], h => simp [stepA] at h
    | _ :: _ :: _ :: _, h => simp [stepA] at h
    | [x, y], h =>
      cases x <;> cases y <;> simp only [stepA] at h <;> try exact h.elim
      all_goals first | exact ⟨_, And.intro rfl rfl, h⟩ | exact ⟨_, And.intro h.1 (And.intro rfl rfl), h.2⟩ | exact ⟨_, And.intro h.1 (And.intro h.2.1 (And.intro rfl rfl)), h.2.2⟩ | exact ⟨_, And.intro h.1 (And.intro h.2.1 (And.intro h.2.2.1 (And.intro rfl rfl))), h.2.2.2⟩ | exact ⟨_, And.intro h.1 (And.intro h.2.1 (And.intro h.2.2.1 (And.intro h.2.2.2.1 (And.intro rfl rfl)))), h.2.2.2.2⟩ | exact ⟨_, And.intro h.1 (And.intro h.2.1 (And.intro h.2.2.1 (And.intro h.2.2.2.1 (And.intro h.2.2.2.2.1 (And.intro rfl rfl))))), h.2.2.2.2.2⟩ | exact ⟨_, And.intro h.1 (And.intro h.2.1 (And.intro h.2.2.1 (And.intro h.2.2.2.1 (And.intro h.2.2.2.2.1 (And.intro h.2.2.2.2.2.1 (And.intro rfl rfl)))))), h.2.2.2.2.2.2⟩ | exact ⟨_, And.intro h.1 (And.intro h.2.1 (And.intro h.2.2.1 (And.intro h.2.2.2.1 (And.intro h.2.2.2.2.1 (And.intro h.2.2.2.2.2.1 (And.intro h.2.2.2.2.2.2.1 (And.intro rfl rfl))))))), h.2.2.2.2.2.2.2⟩
  | extract i =>
    match xs, h with
    | [], h => simp [stepA] at h
    | _ :: _ :: _, h => simp [stepA] at h
    | [x], h =>
      cases x <;> simp only [stepA] at h <;> try exact h.elim
      all_goals first | exact ⟨_, And.intro rfl rfl, h⟩ | exact ⟨_, And.intro h.1 (And.intro rfl rfl), h.2⟩ | exact ⟨_, And.intro h.1 (And.intro h.2.1 (And.intro rfl rfl)), h.2.2⟩ | exact ⟨_, And.intro h.1 (And.intro h.2.1 (And.intro h.2.2.1 (And.intro rfl rfl))), h.2.2.2⟩ | exact ⟨_, And.intro h.1 (And.intro h.2.1 (And.intro h.2.2.1 (And.intro h.2.2.2.1 (And.intro rfl rfl)))), h.2.2.2.2⟩ | exact ⟨_, And.intro h.1 (And.intro h.2.1 (And.intro h.2.2.1 (And.intro h.2.2.2.1 (And.intro h.2.2.2.2.1 (And.intro rfl rfl))))), h.2.2.2.2.2⟩ | exact ⟨_, And.intro h.1 (And.intro h.2.1 (And.intro h.2.2.1 (And.intro h.2.2.2.1 (And.intro h.2.2.2.2.1 (And.intro h.2.2.2.2.2.1 (And.intro rfl rfl)))))), h.2.2.2.2.2.2⟩ | exact ⟨_, And.intro h.1 (And.intro h.2.1 (And.intro h.2.2.1 (And.intro h.2.2.2.1 (And.intro h.2.2.2.2.1 (And.intro h.2.2.2.2.2.1 (And.intro h.2.2.2.2.2.2.1 (And.intro rfl rfl))))))), h.2.2.2.2.2.2.2⟩
  | len str =>
    cases str
    · match xs, h with
      | [], h => simp [stepA] at h
      | _ :: _ :: _, h => simp [stepA] at h
      | [x], h =>
        cases x <;> simp only [stepA] at h <;> try exact h.elim
        all_goals exact ⟨_, And.intro rfl rfl, h⟩
    · match xs, h with
      | [], h => simp [stepA] at h
      | _ :: _ :: _, h => simp [stepA] at h
      | [x], h =>
        cases x <;> simp only [stepA] at h <;> try exact h.elim
        all_goals exact ⟨_, And.intro rfl rfl, h⟩
  | max =>
    match xs, h with
    | [], h => simp [stepA] at h
    | [_], h => simp [stepA] at h
    | _ :: _ :: _ :: _, h => simp [stepA] at h
    | [x, y], h =>
      cases x <;> cases y <;> simp only [stepA] at h <;> try exact h.elim
      all_goals first | exact ⟨_, And.intro rfl rfl, h⟩ | exact ⟨_, And.intro h.1 (And.intro rfl rfl), h.2⟩ | exact ⟨_, And.intro h.1 (And.intro h.2.1 (And.intro rfl rfl)), h.2.2⟩ | exact ⟨_, And.intro h.1 (And.intro h.2.1 (And.intro h.2.2.1 (And.intro rfl rfl))), h.2.2.2⟩ | exact ⟨_, And.intro h.1 (And.intro h.2.1 (And.intro h.2.2.1 (And.intro h.2.2.2.1 (And.intro rfl rfl)))), h.2.2.2.2⟩ | exact ⟨_, And.intro h.1 (And.intro h.2.1 (And.intro h.2.2.1 (And.intro h.2.2.2.1 (And.intro h.2.2.2.2.1 (And.intro rfl rfl))))), h.2.2.2.2.2⟩ | exact ⟨_, And.intro h.1 (And.intro h.2.1 (And.intro h.2.2.1 (And.intro h.2.2.2.1 (And.intro h.2.2.2.2.1 (And.intro h.2.2.2.2.2.1 (And.intro rfl rfl)))))), h.2.2.2.2.2.2⟩ | exact ⟨_, And.intro h.1 (And.intro h.2.1 (And.intro h.2.2.1 (And.intro h.2.2.2.1 (And.intro h.2.2.2.2.1 (And.intro h.2.2.2.2.2.1 (And.intro h.2.2.2.2.2.2.1 (And.intro rfl rfl))))))), h.2.2.2.2.2.2.2⟩
  | min =>
    match xs, h with
    | [], h => simp [stepA] at h
    | [_], h => simp [stepA] at h
    | _ :: _ :: _ :: _, h => simp [stepA] at h
    | [x, y], h =>
      cases x <;> cases y <;> simp only [stepA] at h <;> try exact h.elim
      all_goals first | exact ⟨_, And.intro rfl rfl, h⟩ | exact ⟨_, And.intro h.1 (And.intro rfl rfl), h.2⟩ | exact ⟨_, And.intro h.1 (And.intro h.2.1 (And.intro rfl rfl)), h.2.2⟩ | exact ⟨_, And.intro h.1 (And.intro h.2.1 (And.intro h.2.2.1 (And.intro rfl rfl))), h.2.2.2⟩ | exact ⟨_, And.intro h.1 (And.intro h.2.1 (And.intro h.2.2.1 (And.intro h.2.2.2.1 (And.intro rfl rfl)))), h.2.2.2.2⟩ | exact ⟨_, And.intro h.1 (And.intro h.2.1 (And.intro h.2.2.1 (And.intro h.2.2.2.1 (And.intro h.2.2.2.2.1 (And.intro rfl rfl))))), h.2.2.2.2.2⟩ | exact ⟨_, And.intro h.1 (And.intro h.2.1 (And.intro h.2.2.1 (And.intro h.2.2.2.1 (And.intro h.2.2.2.2.1 (And.intro h.2.2.2.2.2.1 (And.intro rfl rfl)))))), h.2.2.2.2.2.2⟩ | exact ⟨_, And.intro h.1 (And.intro h.2.1 (And.intro h.2.2.1 (And.intro h.2.2.2.1 (And.intro h.2.2.2.2.1 (And.intro h.2.2.2.2.2.1 (And.intro h.2.2.2.2.2.2.1 (And.intro rfl rfl))))))), h.2.2.2.2.2.2.2⟩
  | mkFunc f =>
    exact ⟨_, And.intro rfl rfl, h⟩
  | mapGet z =>
    match xs, h with
    | [], h => simp [stepA] at h
    | [x], h => cases x <;> simp [stepA] at h
    | _ :: _ :: _ :: _, h => simp [stepA] at h
    | [x, y], h =>
      cases x <;> try (simp only [stepA] at h; done)
      cases y <;> simp only [stepA] at h <;> try exact h.elim
      obtain ⟨h1, h2, h3, h4, h5⟩ := h
      obtain ⟨u, hu, h5⟩ := optK_elim h5
      exact ⟨u, ⟨h1, h2, h3, h4, by rw [hu]; exact ⟨rfl, rfl⟩⟩, h5⟩
  | toStr =>
    match xs, h with
    | [], h => simp [stepA] at h
    | _ :: _ :: _, h => simp [stepA] at h
    | [x], h =>
      obtain ⟨h1, h2, bs, h3, h4⟩ := h
      exact ⟨_, ⟨h1, h2, bs, h3, rfl, rfl⟩, h4⟩
  | _ => simp [AK.still] at hk

theorem quiet_one {k : AK} {xs : List AV} {K : AV → Prop} (h : quietA P k H xs K) : ∃ x, QY P k H xs x ∧ K x := by
  unfold quietA at h
  split at h
  · obtain ⟨x, h1, h2⟩ := h
    exact ⟨x, .inl ⟨_, _, _, rfl, rfl, h1⟩, h2⟩
  · exact ⟨_, .inr (.inl ⟨_, _, _, _, rfl, h.1, h.2.1, h.2.2.1, rfl⟩), h.2.2.2⟩
  · obtain ⟨x, h1, h2⟩ := still_one h.1 h.2
    exact ⟨x, .inr (.inr ⟨h.1, h1⟩), h2⟩

theorem compK_bslice {op : Op} {w len : Nat} {z : AV} {idx : List Nat} (h : compK P op = some (.bslice w len z idx)) :
    ∃ t ps e i zv, op = .buildSlice t len ps ∧ P.underlying t = some (.slice e) ∧ P.info? e = some i ∧ i.zero = some zv ∧ avOf zv = some z ∧ 0 < i.size ∧ zv.cells.size = i.size ∧ (∀ c ∈ zv.cells, c.oneCell' = true) ∧ len * i.size ≤ 2 ^ 24 ∧ w = i.size ∧ idx = ps.toList.map (·.1) := by
  cases op
  case buildSlice t len' ps =>
    simp only [compK] at h
    split at h
    · rename_i e ht
      split at h
      · rename_i i hi
        split at h
        · rename_i zv hz
          split at h
          · rename_i x hzx
            split at h
            · rename_i hc
              cases h
              simp only [Bool.and_eq_true, decide_eq_true_eq, beq_iff_eq, Array.all_eq_true_iff_forall_mem] at hc
              exact ⟨t, ps, e, i, zv, rfl, ht, hi, hz, hzx, hc.1.1.1, hc.1.1.2, hc.1.2, hc.2, rfl, rfl⟩
            · cases h
          · cases h
        · cases h
      · cases h
    · cases h
  case makeMap t r => cases r <;> cases h
  case lookup t a b c =>
    cases c
    · simp only [compK] at h
      repeat' split at h
      all_goals first | (cases h; done) | (obtain ⟨_, _, h⟩ := Option.map_eq_some_iff.1 h; cases h; done)
    · cases h
  all_goals
    exfalso
    simp only [compK, compBuiltin] at h
    repeat' split at h
  all_goals
    first
      | (cases h; done)
      | (obtain ⟨⟨_, _⟩, _, h⟩ := Option.map_eq_some_iff.1 h; cases h; done)
      | (obtain ⟨_, _, h⟩ := Option.map_eq_some_iff.1 h; cases h; done)

/-- A new block that nobody will write. -/
def MS.sealed_ (S : MS) (o : Obj) : MS := { S with w := S.w.alloc o, im := fun b => S.im b ∨ b = S.w.heap.size }

theorem keep_grow {S : MS} (hS : SRel S H) (o : Obj) : Evo S (S.sealed_ o) ∧ SRel (S.sealed_ o) H := by
  have e : Evo S (S.sealed_ o) := by
    refine ⟨rfl, rfl, rfl, rfl, by show _ ≤ (S.w.alloc o).heap.size; rw [size_alloc]; omega, fun b hb => heap_alloc_lt _ _ _ (hS.im b hb), fun b hb => .inl hb, fun b hb => hb, fun b hb => ?_, Nat.le_refl _, fun g hg => Nat.le_refl _, fun g hg _ => ⟨rfl, rfl, rfl⟩⟩
    rcases hb with hb | hb
    · exact .inl hb
    · exact .inr fun hk => by have := hS.im b (.inr hk); omega
  refine ⟨e, hS.n, fun g hg => ?_, hS.apart, fun b hb => ?_⟩
  · have hr := hS.grp g hg
    refine hr.mono' e (by rw [hS.n]; exact hg) rfl (fun hh => heap_alloc_lt _ _ _ (hr.has_lt hh)) (fun hh => ?_)
    have h1 := hr.has_ni hh
    have h2 := hr.has_lt hh
    rintro ((hi | hi) | hk)
    · exact h1 (.inl hi)
    · omega
    · exact h1 (.inr hk)
  · show b < (S.w.alloc o).heap.size
    rw [size_alloc]
    rcases hb with (hb | hb) | hb
    · have := hS.im b (.inl hb); omega
    · omega
    · have := hS.im b (.inr hb); omega

/-- One quiet operation, carried out. -/
theorem quiet_ok {S : MS} (hS : SRel S H) {env : Env} {a : Act} (hF : FRel S n env a) {o : Oper} {q : AOp} (h : compOp P n ops o = some q) {x : AV} (hq : QY P q.k H (q.vals env) x)
    {N : Act → World → Prop} {Q : Exit → Act → World → Prop} (hN : ∀ S' a', Evo S S' → SRel S' H → FRel S' n (env.put q.dst x) a' → N a' S'.w) : o.wpIn (fen rd) mm P a S.w N Q := by
  rcases hq with ⟨f, caps, ys, hk, hxs, hc⟩ | ⟨w, len, z, idx, hk, hfit, hw, hp, rfl⟩ | ⟨_, hst⟩
  · have hst : stepA P q.k H (q.vals env) (fun y H' => y = x ∧ H' = H) := by rw [hk, hxs]; exact hc
    refine op_ok hS hF h hst (fun S' H' y a' e hS' hF' hK => ?_) rd mm
    obtain ⟨rfl, rfl⟩ := hK
    exact hN S' a' e hS' hF'
  · obtain ⟨h1, h2, h3, h4, _⟩ := compOp_spec h
    have hargs := args_rel hF h2
    rw [hk] at h1
    obtain ⟨t, ps, e, i, zv, hop, ht, hi, hz, hzx, h0, hzs, hz1, hmax, rfl, rfl⟩ := compK_bslice h1
    have hx' : VsRel S (q.vals env) (ps.toList.map fun p => a.eval p.2) := by
      have : VsRel S (q.vals env) (o.op.operands.toList.map a.eval) := hargs
      rw [hop] at this
      simpa [Op.operands, List.map_map, Function.comp_def] using this
    obtain ⟨cells, vs, run, g2, g3, g4, g5⟩ := bslice_raw (P := P) (S := S) len ht hi hz hzx h0 hzs hz1 hmax ps.toList hx' hfit
    obtain ⟨ev, hS'⟩ := keep_grow hS (.cells cells e)
    have hrun : (execOp a.eval o).run P S.w = .ok (.value (.slice (some ⟨S.w.heap.size, 0, none⟩) len len)) (S.w.alloc (.cells cells e)) := by
      rw [← run]
      obtain ⟨dst, op, type, pos, after, guard⟩ := o
      change op = _ at hop
      subst hop
      rfl
    have hsem : o.semAt (fen rd).round a.eval = execOp a.eval o := Oper.semAt_eq _ _ _ fun c hc => by rw [hop] at hc; cases hc
    refine ⟨fun _ _ => trivial, ?_⟩
    rw [hsem, hrun]
    refine hN (S.sealed_ (.cells cells e)) (a.put o.dst (.slice (some ⟨S.w.heap.size, 0, none⟩) len len)) ev hS' ?_
    rw [h3]
    refine (hF.mono ev).put h4 ⟨hp, hw, _, vs, ?_, ?_, VsRel.mono ev _ g3, fun _ => ⟨S.w.heap.size, 0, rfl, .inr rfl, g5.row (heap_alloc_new _ _)⟩⟩
    · rw [setAll_length]; simp
    · intro hn; cases hn
  · refine op_ok hS hF h hst (fun S' H' y a' e hS' hF' hK => ?_) rd mm
    obtain ⟨rfl, rfl⟩ := hK
    exact hN S' a' e hS' hF'

def Lets (q : AOp) (env : Env) : Prop := match q.guard with | none => True | some (d, want) => env d = .bool want
def Bars (q : AOp) (env : Env) : Prop := match q.guard with | none => False | some (d, want) => env d = .bool (!want) ∨ env d = .tup []

/-- In this frame the operation yields x. -/
def YieldsA (P : Program) (H : AHeap) (q : AOp) (x : AV) (env : Env) : Prop := (Lets q env ∧ QY P q.k H (q.vals env) x) ∨ (Bars q env ∧ x = .tup [])

theorem lets_wanted {o : Oper} {q : AOp} (h : compOp P n ops o = some q) {S : MS} {env : Env} {a : Act} (hF : FRel S n env a) : (Lets q env → Region.wanted o (yielded ops a.tmps) = true) ∧ (Bars q env → Region.wanted o (yielded ops a.tmps) = false) := by
  obtain ⟨_, _, _, _, h5⟩ := compOp_spec h
  rcases h5 with ⟨h1, h2⟩ | ⟨j, want, d, h1, h2, h3, h4⟩
  · simp [Lets, Bars, h2, Region.wanted, h1]
  · obtain ⟨y1, y2⟩ := yielded_eq hF h3 h4
    simp only [Lets, Bars, h2, Region.wanted, h1]
    refine ⟨fun hh => ?_, fun hh => ?_⟩
    · rw [y1 _ hh]; simp
    · rcases hh with hh | hh
      · rw [y1 _ hh]; cases want <;> rfl
      · rw [y2 hh]; rfl

/-- One operation, whenever it comes up. -/
theorem yields_ok {S : MS} (hS : SRel S H) {env : Env} {a : Act} (hF : FRel S n env a) {i : Nat} {o : Oper} (ho : ops[i]? = some o) {q : AOp} (h : compOp P n ops o = some q) {x : AV} (hy : YieldsA P H q x env)
    {N : Act → World → Prop} {Q : Exit → Act → World → Prop} (hN : ∀ S' a', Evo S S' → SRel S' H → FRel S' n (env.put q.dst x) a' → N a' S'.w) : wpOpIn (fen rd) mm P ops Q i N a S.w := by
  obtain ⟨hl, hb⟩ := lets_wanted h hF
  unfold wpOpIn
  simp only [ho]
  rcases hy with ⟨h1, h2⟩ | ⟨h1, rfl⟩
  · rw [if_pos (hl h1)]
    exact quiet_ok hS hF h h2 hN
  · rw [if_neg (by rw [hb h1]; simp)]
    obtain ⟨_, _, h3, h4, _⟩ := compOp_spec h
    exact ⟨fun _ _ => trivial, hN S _ (.refl S) hS (by rw [h3]; exact hF.put h4 undef_rel)⟩

/-- Any order, told of the data alone. -/
def anyA (P : Program) (md : Region.Mode) (ops : Array Oper) (l : List AOp) (H : AHeap) (Q : Env → Prop) : Nat → Array Bool → Env → Prop
  | 0, listed, env => Region.ready md ops listed = [] ∧ Q env
  | fuel + 1, listed, env => (Region.ready md ops listed = [] → Q env) ∧ ∀ i ∈ Region.ready md ops listed, ∃ q x, l[i]? = some q ∧ YieldsA P H q x env ∧ anyA P md ops l H Q fuel (listed.setIfInBounds i true) (env.put q.dst x)

theorem mapM_get {l : List Oper} {l' : List AOp} (h : l.mapM (compOp P n ops) = some l') : ∀ {i : Nat} {o : Oper}, l[i]? = some o → ∃ q, l'[i]? = some q ∧ compOp P n ops o = some q := by
  induction l generalizing l' with
  | nil => intro i o ho; simp at ho
  | cons y l ih =>
    rw [List.mapM_cons] at h
    simp only [Option.bind_eq_bind, Option.bind_eq_some_iff, Option.pure_def, Option.some.injEq] at h
    obtain ⟨q, hq, r, hr, rfl⟩ := h
    intro i o ho
    cases i with
    | zero => simp at ho; subst ho; exact ⟨q, rfl, hq⟩
    | succ i => simp at ho; simpa using ih hr ho

theorem any_sound {l : List AOp} (hl : ops.toList.mapM (compOp P n ops) = some l) {Q : Env → Prop} {Q' : Exit → Act → World → Prop} : ∀ (fuel : Nat) (listed : Array Bool) (env : Env) (S : MS) (a : Act), anyA P md ops l H Q fuel listed env → SRel S H → FRel S n env a →
    (∀ S' env' a', Evo S S' → SRel S' H → FRel S' n env' a' → Q env' → Q' .normal a' S'.w) → wpAnyIn (fen rd) mm P md ops Q' fuel listed a S.w
  | 0, listed, env, S, a, h, hS, hF, hQ => ⟨h.1, hQ S env a (.refl S) hS hF h.2⟩
  | fuel + 1, listed, env, S, a, h, hS, hF, hQ => by
    refine ⟨fun h0 => hQ S env a (.refl S) hS hF (h.1 h0), fun i hi => ?_⟩
    obtain ⟨q, x, hq, hy, hrest⟩ := h.2 i hi
    obtain ⟨_, o, ho, _⟩ := mem_ready.1 hi
    obtain ⟨q', hq', hc⟩ := mapM_get hl (i := i) (o := o) (by simpa using ho)
    rw [hq] at hq'
    cases hq'
    exact yields_ok hS hF ho hc hy fun S' a' e hS' hF' => any_sound hl fuel _ _ S' a' hrest hS' hF' fun S2 env2 a2 e2 hS2 hF2 hQ2 => hQ S2 env2 a2 (e.trans e2) hS2 hF2 hQ2

theorem slot_of_arg {x : Operand} {t : Nat} (h : compArg n x = some (.slot t)) : x = .tmp t := by
  cases x <;> simp only [compArg] at h
  · split at h
    · cases h; rfl
    · cases h
  · obtain ⟨_, _, h⟩ := Option.map_eq_some_iff.1 h; cases h
  · cases h
  · cases h

theorem slots_of_args {d : Nat} : ∀ {l : List Operand} {l' : List AArg}, l.mapM (compArg n) = some l' → AArg.slot d ∈ l' → Operand.tmp d ∈ l
  | [], l', h, hd => by simp at h; subst h; simp at hd
  | x :: l, l', h, hd => by
    rw [List.mapM_cons] at h
    simp only [Option.bind_eq_bind, Option.bind_eq_some_iff, Option.pure_def, Option.some.injEq] at h
    obtain ⟨y, hy, r, hr, rfl⟩ := h
    rcases List.mem_cons.1 hd with rfl | hd
    · rw [slot_of_arg hy]; simp
    · exact List.mem_cons_of_mem _ (slots_of_args hr hd)

/-- What an operation doesn't look at makes no difference to it. -/
theorem vals_put {o : Oper} {q : AOp} (h : compOp P n ops o = some q) {dst : Option Nat} (hd : ∀ d, dst = some d → d ∉ o.looksAt ops) (env : Env) (x : AV) :
    q.vals (env.put dst x) = q.vals env ∧ (Lets q (env.put dst x) ↔ Lets q env) ∧ (Bars q (env.put dst x) ↔ Bars q env) := by
  cases dst with
  | none => exact ⟨rfl, Iff.rfl, Iff.rfl⟩
  | some d =>
    have hnd := hd d rfl
    obtain ⟨_, h2, _, _, h5⟩ := compOp_spec h
    refine ⟨?_, ?_⟩
    · unfold AOp.vals
      refine List.map_congr_left fun y hy => ?_
      cases y with
      | const z => rfl
      | slot t =>
        have ht : t ≠ d := fun e => by
          subst e
          have := slots_of_args h2 hy
          exact hnd (List.mem_append_left _ (List.mem_filterMap.2 ⟨.tmp t, this, rfl⟩))
        show (if t = d then x else env t) = env t
        rw [if_neg ht]
    · rcases h5 with ⟨_, hg⟩ | ⟨j, want, d', hg, hg', hj, _⟩
      · simp [Lets, Bars, hg]
      · have hne : d' ≠ d := fun e => by
          subst e
          exact hnd (List.mem_append_right _ (by simp [hg, hj]))
        have e : env.put (some d) x d' = env d' := by show (if d' = d then x else env d') = _; rw [if_neg hne]
        simp [Lets, Bars, hg', e]

theorem put_comm (env : Env) {x y : Option Nat} (u v : AV) (h : ∀ d, x = some d → y ≠ some d) : (env.put x u).put y v = (env.put y v).put x u := by
  cases x with
  | none => rfl
  | some d =>
    cases y with
    | none => rfl
    | some e =>
      have hne : e ≠ d := fun he => h d rfl (he ▸ rfl)
      funext j
      show (if j = e then v else if j = d then u else env j) = (if j = d then u else if j = e then v else env j)
      by_cases h1 : j = e
      · subst h1; rw [if_pos rfl, if_neg hne, if_pos rfl]
      · rw [if_neg h1, if_neg h1]

theorem yields_put {o : Oper} {q : AOp} (h : compOp P n ops o = some q) {dst : Option Nat} (hd : ∀ d, dst = some d → d ∉ o.looksAt ops) {env : Env} {x y : AV} : YieldsA P H q y (env.put dst x) ↔ YieldsA P H q y env := by
  obtain ⟨h1, h2, h3⟩ := vals_put h hd env x
  unfold YieldsA
  rw [h1, h2, h3]

/-- An operation that may come up now may be taken first. -/
theorem anyA_first {l : List AOp} (hl : ops.toList.mapM (compOp P n ops) = some l) {Q : Env → Prop} {i : Nat} {oi : Oper} {qi : AOp} {x : AV} (hi : ops[i]? = some oi) (hqi : l[i]? = some qi) : ∀ (fuel : Nat) (listed : Array Bool) (env : Env),
    (∀ j oj, ops[j]? = some oj → j ≠ i → listed.getD j true = false → (∀ e ∈ oj.after, Region.binds md e = true → e.on ≠ i) → oi.apart ops oj = true) →
    i ∈ Region.ready md ops listed → YieldsA P H qi x env → anyA P md ops l H Q fuel (listed.setIfInBounds i true) (env.put qi.dst x) → anyA P md ops l H Q (fuel + 1) listed env := by
  have hci : compOp P n ops oi = some qi := by
    obtain ⟨q, hq, hc⟩ := mapM_get hl (i := i) (o := oi) (by simpa using hi)
    rw [hqi] at hq; cases hq; exact hc
  intro fuel
  induction fuel with
  | zero =>
    intro listed env _ hr hy H
    refine ⟨fun h => (by rw [h] at hr; cases hr), fun j hj => ?_⟩
    by_cases hji : j = i
    · subst hji; exact ⟨qi, x, hqi, hy, H⟩
    · have := ready_mono hj hji
      rw [H.1] at this
      cases this
  | succ fuel ih =>
    intro listed env hfree hr hy H
    refine ⟨fun h => (by rw [h] at hr; cases hr), fun j hj => ?_⟩
    by_cases hji : j = i
    · subst hji; exact ⟨qi, x, hqi, hy, H⟩
    · obtain ⟨qj, xj, hqj, hyj, hrest⟩ := H.2 j (ready_mono hj hji)
      obtain ⟨hjun, oj, hoj, hall⟩ := mem_ready.1 hj
      have hcj : compOp P n ops oj = some qj := by
        obtain ⟨q, hq, hc⟩ := mapM_get hl (i := j) (o := oj) (by simpa using hoj)
        rw [hqj] at hq; cases hq; exact hc
      have hnot : ∀ e ∈ oj.after, Region.binds md e = true → e.on ≠ i := fun e he hb heq => by
        have h1 := hall e he hb
        have h0 := (mem_ready.1 hr).1
        rw [heq] at h1
        rcases Nat.lt_or_ge i listed.size with h' | h'
        · simp [h'] at h0 h1; rw [h0] at h1; cases h1
        · simp [Array.getElem?_eq_none h'] at h1
      obtain ⟨a1, a2, a3⟩ := Oper.apart_spec (hfree j oj hoj hji hjun hnot)
      have di : qi.dst = oi.dst := (compOp_spec hci).2.2.1
      have dj : qj.dst = oj.dst := (compOp_spec hcj).2.2.1
      have hfree' : ∀ k ok, ops[k]? = some ok → k ≠ i → (listed.setIfInBounds j true).getD k true = false →
          (∀ e ∈ ok.after, Region.binds md e = true → e.on ≠ i) → oi.apart ops ok = true := fun k ok hk hki hun hno => by
        refine hfree k ok hk hki ?_ hno
        by_cases hjk : j = k
        · subst hjk; exact hjun
        · rw [getD_set_ne true hjk] at hun; exact hun
      refine ⟨qj, xj, hqj, (yields_put hcj (by rw [di]; exact a1)).1 hyj, ih (listed.setIfInBounds j true) _ hfree' (ready_mono hr (Ne.symm hji)) ((yields_put hci (by rw [dj]; exact a3)).2 hy) ?_⟩
      rw [Array.setIfInBounds_comm _ _ hji, put_comm env xj x (by rw [di, dj]; intro d hd hh; exact a2 d hh hd)]
      exact hrest

theorem guardK_yields {q : AOp} {env : Env} {f : Bool → Env → Prop} (hg : guardK env q.guard f) : (Lets q env ∧ f true env) ∨ (Bars q env ∧ f false env) := by
  unfold Lets Bars
  cases hq : q.guard with
  | none => rw [hq] at hg; exact .inl ⟨trivial, hg⟩
  | some gw =>
    obtain ⟨d, want⟩ := gw
    rw [hq] at hg
    simp only [guardK] at hg
    cases hx : env d <;> rw [hx] at hg <;> try exact (show False from hg).elim
    · rename_i b
      have hg := guardV_bool hg
      by_cases hb : b = want
      · have := hg.1 hb
        rw [put_id (by rw [hx, hb])] at this
        exact .inl ⟨by simp [hx, hb], this⟩
      · have hb' : b = !want := by cases b <;> cases want <;> simp_all
        have := hg.2 hb'
        rw [put_id (by rw [hx, hb'])] at this
        exact .inr ⟨.inl (by simp [hx, hb']), this⟩
    · rename_i vs
      cases vs with
      | nil => exact .inr ⟨.inr hx, hg⟩
      | cons _ _ => exact (show False from hg).elim

theorem anyA_lex {L : List AOp} (hL : ops.toList.mapM (compOp P n ops) = some L) {Q : Env → Prop} : ∀ (l : List Oper) (l' : List AOp) (k : Nat) (listed : Array Bool) (env : Env), (∀ j, l[j]? = ops[k + j]?) → (∀ j, l'[j]? = L[k + j]?) → l.length = l'.length →
    Region.lexFrom md ops l.length k listed = true → runQ P H l' env Q → anyA P md ops L H Q l.length listed env
  | [], [], _, _, _, _, _, _, hB, h => ⟨by simpa [Region.lexFrom] using hB, h⟩
  | o :: l, q :: l', k, listed, env, hl, hl', hlen, hB, h => by
    have h0 : ops[k]? = some o := by simpa using (hl 0).symm
    have h0' : L[k]? = some q := by simpa using (hl' 0).symm
    simp only [List.length_cons, Region.lexFrom, Bool.and_eq_true] at hB
    obtain ⟨⟨hr, hf⟩, hB'⟩ := hB
    simp only [runQ] at h
    have ih := fun env' (hh : runQ P H l' env' Q) => anyA_lex hL l l' (k + 1) (listed.setIfInBounds k true) env' (fun j => by have := hl (j + 1); simpa [Nat.add_assoc, Nat.add_comm 1 j] using this) (fun j => by have := hl' (j + 1); simpa [Nat.add_assoc, Nat.add_comm 1 j] using this) (by simpa using hlen) hB' hh
    rcases guardK_yields h with ⟨h1, h2⟩ | ⟨h1, h2⟩
    · simp only [if_true] at h2
      obtain ⟨x, hx, hK⟩ := quiet_one h2
      exact anyA_first hL h0 h0' l.length listed env (Region.free_spec h0 hf) (by simpa using hr) (.inl ⟨h1, hx⟩) (ih _ hK)
    · simp only [Bool.false_eq_true, if_false] at h2
      exact anyA_first hL h0 h0' l.length listed env (Region.free_spec h0 hf) (by simpa using hr) (.inr ⟨h1, rfl⟩) (ih _ h2)
  | [], _ :: _, _, _, _, _, _, hlen, _, _ => by simp at hlen
  | _ :: _, [], _, _, _, _, _, hlen, _, _ => by simp at hlen

theorem mapM_length {α β : Type} {f : α → Option β} : ∀ {l : List α} {l' : List β}, l.mapM f = some l' → l.length = l'.length
  | [], l', h => by simp at h; subst h; rfl
  | x :: l, l', h => by
    rw [List.mapM_cons] at h
    simp only [Option.bind_eq_bind, Option.bind_eq_some_iff, Option.pure_def, Option.some.injEq] at h
    obtain ⟨y, _, r, hr, rfl⟩ := h
    simp [mapM_length hr]

theorem mapM_drop {α β : Type} {f : α → Option β} : ∀ {l : List α} {l' : List β}, l.mapM f = some l' → ∀ m, (l.drop m).mapM f = some (l'.drop m)
  | [], l', h, m => by simp at h; subst h; simp
  | x :: l, l', h, 0 => by simpa using h
  | x :: l, l', h, m + 1 => by
    rw [List.mapM_cons] at h
    simp only [Option.bind_eq_bind, Option.bind_eq_some_iff, Option.pure_def, Option.some.injEq] at h
    obtain ⟨y, _, r, hr, rfl⟩ := h
    simpa using mapM_drop hr m

/-- A REGION WHOSE ORDER IS DRAWN. -/
theorem draw_sound {S : MS} {a : Act} {env : Env} {id : Nat} {l : List AOp} (hm : P.follows .mixedOrders = true) (hB : Region.lexB .any ops = true) (hl : ops.toList.mapM (compOp P n ops) = some l) (hS : SRel S H) (hF : FRel S n env a) {K : Env → Prop} (h : runQ P H l env K)
    {Q : Exit → Act → World → Prop} (hQ : ∀ S' env' a', Evo S S' → SRel S' H → FRel S' n env' a' → K env' → Q .normal a' S'.w) : (Code.region id ops true).wpIn (fen rd) mm P Q a S.w := by
  simp only [Region.lexB, Bool.and_eq_true] at hB
  have hlen : ops.toList.length = l.length := mapM_length hl
  have := anyA_lex (md := .any) hl ops.toList l 0 (Array.replicate ops.size false) env (by simp) (by simp) hlen (by simpa using hB.2) h
  have e := Evo.drew S
  exact wpIn_region_any hm (any_sound hl ops.size _ env { S with w := S.w.drew } a (by simpa using this) hS.drew (hF.mono e) fun S' env' a' e' hS' hF' hK => hQ S' env' a' (e.trans e') hS' hF' hK)

/-! ### A tail that changes groups -/
/-- The first m operations in any order, told of the data alone. -/
def anyL (P : Program) (md : Region.Mode) (ops : Array Oper) (l : List AOp) (H : AHeap) (m : Nat) (L : Array Bool → Env → Prop) : Nat → Array Bool → Env → Prop
  | 0, listed, env => L listed env
  | f + 1, listed, env => Region.ready md ops listed ≠ [] ∧ ∀ i ∈ Region.ready md ops listed, i < m ∧ ∃ q x, l[i]? = some q ∧ YieldsA P H q x env ∧ anyL P md ops l H m L f (listed.setIfInBounds i true) (env.put q.dst x)

theorem anyL_sound {l : List AOp} (hl : ops.toList.mapM (compOp P n ops) = some l) {m g : Nat} {L : Array Bool → Env → Prop} {Q' : Exit → Act → World → Prop} : ∀ (f : Nat) (listed : Array Bool) (env : Env) (S : MS) (a : Act), anyL P md ops l H m L f listed env → SRel S H → FRel S n env a →
    (∀ listed S' env' a', Evo S S' → SRel S' H → FRel S' n env' a' → L listed env' → wpAnyIn (fen rd) mm P md ops Q' g listed a' S'.w) → wpAnyIn (fen rd) mm P md ops Q' (f + g) listed a S.w
  | 0, listed, env, S, a, h, hS, hF, hQ => by rw [Nat.zero_add]; exact hQ listed S env a (.refl S) hS hF h
  | f + 1, listed, env, S, a, h, hS, hF, hQ => by
    rw [show f + 1 + g = (f + g) + 1 by omega]
    refine ⟨fun h0 => absurd h0 h.1, fun i hi => ?_⟩
    obtain ⟨_, q, x, hq, hy, hrest⟩ := h.2 i hi
    obtain ⟨_, o, ho, _⟩ := mem_ready.1 hi
    obtain ⟨q', hq', hc⟩ := mapM_get hl (i := i) (o := o) (by simpa using ho)
    rw [hq] at hq'
    cases hq'
    exact yields_ok hS hF ho hc hy fun S' a' e hS' hF' => anyL_sound hl f _ _ S' a' hrest hS' hF' fun listed S2 env2 a2 e2 hS2 hF2 hQ2 => hQ listed S2 env2 a2 (e.trans e2) hS2 hF2 hQ2

theorem anyL_first {l : List AOp} (hl : ops.toList.mapM (compOp P n ops) = some l) {m : Nat} {L : Array Bool → Env → Prop} {i : Nat} {oi : Oper} {qi : AOp} {x : AV} (hi : ops[i]? = some oi) (hqi : l[i]? = some qi)
    (hs : Region.sinkB md ops m = true) (hc : Region.chainB md ops m = true) (hn : m < ops.size) (hin : i < m) (hdone : ∀ listed env, L listed env → ∀ j ∈ Region.ready md ops listed, m ≤ j) : ∀ (f : Nat) (listed : Array Bool) (env : Env), HeadInv md ops m listed →
    (∀ j oj, ops[j]? = some oj → j ≠ i → listed.getD j true = false → (∀ e ∈ oj.after, Region.binds md e = true → e.on ≠ i) → oi.apart ops oj = true) →
    i ∈ Region.ready md ops listed → YieldsA P H qi x env → anyL P md ops l H m L f (listed.setIfInBounds i true) (env.put qi.dst x) → anyL P md ops l H m L (f + 1) listed env := by
  have hci : compOp P n ops oi = some qi := by
    obtain ⟨q, hq, hc⟩ := mapM_get hl (i := i) (o := oi) (by simpa using hi)
    rw [hqi] at hq; cases hq; exact hc
  intro f
  induction f with
  | zero =>
    intro listed env inv _ hr hy h
    have hun := (mem_ready.1 hr).1
    refine ⟨fun h => (by rw [h] at hr; cases hr), fun j hj => ?_⟩
    have hjm : j < m := by
      rcases Nat.lt_or_ge j m with h | h
      · exact h
      · exact absurd hj (tail_waits hs hc hn inv _ i rfl hin hun j h)
    refine ⟨hjm, ?_⟩
    by_cases hji : j = i
    · subst hji; exact ⟨qi, x, hqi, hy, h⟩
    · have := hdone _ _ h j (ready_mono hj hji)
      omega
  | succ f ih =>
    intro listed env inv hfree hr hy h
    have hun := (mem_ready.1 hr).1
    refine ⟨fun h => (by rw [h] at hr; cases hr), fun j hj => ?_⟩
    have hjm : j < m := by
      rcases Nat.lt_or_ge j m with h | h
      · exact h
      · exact absurd hj (tail_waits hs hc hn inv _ i rfl hin hun j h)
    refine ⟨hjm, ?_⟩
    by_cases hji : j = i
    · subst hji; exact ⟨qi, x, hqi, hy, h⟩
    · obtain ⟨_, qj, xj, hqj, hyj, hrest⟩ := h.2 j (ready_mono hj hji)
      obtain ⟨hjun, oj, hoj, hall⟩ := mem_ready.1 hj
      have hcj : compOp P n ops oj = some qj := by
        obtain ⟨q, hq, hc⟩ := mapM_get hl (i := j) (o := oj) (by simpa using hoj)
        rw [hqj] at hq; cases hq; exact hc
      have hnot : ∀ e ∈ oj.after, Region.binds md e = true → e.on ≠ i := fun e he hb heq => by
        have h1 := hall e he hb
        rw [heq, getD_both hun] at h1
        cases h1
      obtain ⟨a1, a2, a3⟩ := Oper.apart_spec (hfree j oj hoj hji hjun hnot)
      have di : qi.dst = oi.dst := (compOp_spec hci).2.2.1
      have dj : qj.dst = oj.dst := (compOp_spec hcj).2.2.1
      have hfree' : ∀ k ok, ops[k]? = some ok → k ≠ i → (listed.setIfInBounds j true).getD k true = false →
          (∀ e ∈ ok.after, Region.binds md e = true → e.on ≠ i) → oi.apart ops ok = true := fun k ok hk hki hun hno => by
        refine hfree k ok hk hki ?_ hno
        by_cases hjk : j = k
        · subst hjk; exact hjun
        · rw [getD_set_ne true hjk] at hun; exact hun
      refine ⟨qj, xj, hqj, (yields_put hcj (by rw [di]; exact a1)).1 hyj, ih (listed.setIfInBounds j true) _ (inv.set hj hjm) hfree' (ready_mono hr (Ne.symm hji)) ((yields_put hci (by rw [dj]; exact a3)).2 hy) ?_⟩
      rw [Array.setIfInBounds_comm _ _ hji, put_comm env xj x (by rw [di, dj]; intro d hd hh; exact a2 d hh hd)]
      exact hrest

theorem anyL_lex {L0 : List AOp} (hL : ops.toList.mapM (compOp P n ops) = some L0) {m g : Nat} {Q : Env → Prop} (hs : Region.sinkB md ops m = true) (hc : Region.chainB md ops m = true) (hn : m < ops.size) :
    ∀ (l : List Oper) (l' : List AOp) (k : Nat) (listed : Array Bool) (env : Env), (∀ j, j < l.length → l[j]? = ops[k + j]?) → (∀ j, j < l.length → l'[j]? = L0[k + j]?) → l.length = l'.length → k + l.length = m → HeadInv md ops m listed →
    Region.lexHead md ops g l.length k listed = true → runQ P H l' env Q → anyL P md ops L0 H m (fun listed' env' => Region.seqB md ops g m listed' = true ∧ Q env') l.length listed env
  | [], [], k, _, _, _, _, _, hk, _, hB, h => by
    have : k = m := by simpa using hk
    subst this
    exact ⟨by simpa [Region.lexHead] using hB, h⟩
  | o :: l, q :: l', k, listed, env, hl, hl', hlen, hk, inv, hB, h => by
    have h0 : ops[k]? = some o := by simpa using (hl 0 (by simp)).symm
    have h0' : L0[k]? = some q := by simpa using (hl' 0 (by simp)).symm
    simp only [List.length_cons, Region.lexHead, Bool.and_eq_true] at hB
    obtain ⟨⟨hr, hf⟩, hB'⟩ := hB
    have hkm : k < m := by simp only [List.length_cons] at hk; omega
    have hr' : k ∈ Region.ready md ops listed := by simpa using hr
    simp only [runQ] at h
    have ih := fun env' (hh : runQ P H l' env' Q) => anyL_lex hL hs hc hn l l' (k + 1) (listed.setIfInBounds k true) env' (fun j hj => by have := hl (j + 1) (by simp; omega); simpa [Nat.add_assoc, Nat.add_comm 1 j] using this) (fun j hj => by have := hl' (j + 1) (by simp; omega); simpa [Nat.add_assoc, Nat.add_comm 1 j] using this) (by simpa using hlen) (by simp only [List.length_cons] at hk; omega) (inv.set hr' hkm) hB' hh
    rcases guardK_yields h with ⟨h1, h2⟩ | ⟨h1, h2⟩
    · simp only [if_true] at h2
      obtain ⟨x, hx, hK⟩ := quiet_one h2
      exact anyL_first hL h0 h0' hs hc hn hkm (fun listed' env' hh => seqB_ready hh.1) l.length listed env inv (Region.free_spec h0 hf) hr' (.inl ⟨h1, hx⟩) (ih _ hK)
    · simp only [Bool.false_eq_true, if_false] at h2
      exact anyL_first hL h0 h0' hs hc hn hkm (fun listed' env' hh => seqB_ready hh.1) l.length listed env inv (Region.free_spec h0 hf) hr' (.inr ⟨h1, rfl⟩) (ih _ h2)
  | [], _ :: _, _, _, _, _, _, hlen, _, _, _, _ => by simp at hlen
  | _ :: _, [], _, _, _, _, _, hlen, _, _, _, _ => by simp at hlen

theorem seq_ops {Q' : Exit → Act → World → Prop} : ∀ (g k : Nat) (listed : Array Bool) (a : Act) (w : World), k + g = ops.size → Region.seqB md ops g k listed = true → wpOpsIn (fen rd) mm P ops Q' (List.range' k g) a w → wpAnyIn (fen rd) mm P md ops Q' g listed a w
  | 0, _, _, _, _, _, hB, h => ⟨by simpa [Region.seqB] using hB, by simpa [wpOpsIn] using h⟩
  | g + 1, k, listed, a, w, hk, hB, h => by
    simp only [Region.seqB, Bool.and_eq_true, decide_eq_true_eq] at hB
    refine ⟨fun h1 => (by rw [hB.1] at h1; cases h1), fun i hi => ?_⟩
    rw [hB.1] at hi
    have hik : i = k := by simpa using hi
    subst hik
    have hlt : i < ops.size := by omega
    have h0 : ops[i]? = some ops[i] := Array.getElem?_eq_getElem hlt
    rw [show List.range' i (g + 1) = i :: List.range' (i + 1) g from rfl] at h
    have hw : wpOpIn (fen rd) mm P ops Q' i (wpOpsIn (fen rd) mm P ops Q' (List.range' (i + 1) g)) a w := by
      unfold wpOpIn
      simp only [wpOpsIn, h0] at h ⊢
      exact h
    exact wpOpIn_mono (fun a' w' h' => seq_ops g (i + 1) _ a' w' (by omega) hB.2 h') hw

/-- A REGION WHOSE ORDER IS DRAWN, till what changes groups comes. -/
theorem draw_tail {S : MS} {a : Act} {env : Env} {id m : Nat} {l : List AOp} (hm : P.follows .mixedOrders = true) (hB : Region.lexTailB .any ops m = true) (hl : ops.toList.mapM (compOp P n ops) = some l) (hS : SRel S H) (hF : FRel S n env a) {K : Env → AHeap → Prop}
    (h : runQ P H (l.take m) env fun env' => runK P (l.drop m) env' H K)
    {Q : Exit → Act → World → Prop} (hQ : ∀ S' H' env' a', Evo S S' → SRel S' H' → FRel S' n env' a' → K env' H' → Q .normal a' S'.w) : (Code.region id ops true).wpIn (fen rd) mm P Q a S.w := by
  simp only [Region.lexTailB, Bool.and_eq_true, decide_eq_true_eq] at hB
  obtain ⟨⟨⟨⟨hsel, hn⟩, hs⟩, hc⟩, hlex⟩ := hB
  have hlen : ops.toList.length = l.length := mapM_length hl
  have hn' : m < ops.toList.length := by simpa using hn
  have htl : (ops.toList.take m).length = m := by simp; omega
  have inv0 : HeadInv .any ops m (Array.replicate ops.size false) :=
    ⟨by simp, fun j oj _ hl => (by rw [getD_replicate_false] at hl; cases hl), fun t _ ht => getD_in (by simpa using ht) (getD_replicate_false _ _)⟩
  have e := Evo.drew S
  have hA := anyL_lex (md := .any) (g := ops.size - m) hl hs hc hn (ops.toList.take m) (l.take m) 0 _ env (fun j hj => by
      rw [htl] at hj
      simp [hj]) (fun j hj => by
      rw [htl] at hj
      simp [hj]) (by rw [List.length_take, List.length_take, hlen]) (by simpa using htl) inv0 (by rw [htl]; exact hlex) h
  rw [htl] at hA
  refine wpIn_region_any hm ?_
  have hsz : ops.size = m + (ops.size - m) := by omega
  have := anyL_sound (rd := rd) (mm := mm) (Q' := Q) (g := ops.size - m) hl m _ env { S with w := S.w.drew } a hA hS.drew (hF.mono e) fun listed S' env' a' e' hS' hF' hh => by
    obtain ⟨hseq, hK⟩ := hh
    have hdl : (ops.toList.drop m).length = ops.size - m := by simp
    refine seq_ops _ _ _ _ _ (by omega) hseq ?_
    have hmd : (ops.toList.drop m).mapM (compOp P n ops) = some (l.drop m) := mapM_drop hl m
    have := run_sound (Q := Q) (ops.toList.drop m) (l.drop m) m (fun j => by simp) hmd hS' hF' hK (fun S2 H2 env2 a2 e2 hS2 hF2 hK2 => hQ S2 H2 env2 a2 ((e.trans e').trans e2) hS2 hF2 hK2) rd mm
    rwa [hdl] at this
  rw [← hsz] at this
  exact this

end
end Go.Proofs.Ytdmjhlofphhldaa.Abs
