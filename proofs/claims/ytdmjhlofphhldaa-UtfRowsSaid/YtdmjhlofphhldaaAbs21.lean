/-
  Groups numbered anew: at a point of the code some groups are kept, under new numbers; all others are read as data from there on.
-/
import Derived.Test.YtdmjhlofphhldaaAbs20
set_option linter.unusedSimpArgs false
set_option linter.unusedVariables false
namespace Go.Proofs.Ytdmjhlofphhldaa.Abs

/-- At which place of a list a number stands. -/
def pos : List Nat → Nat → Option Nat
  | [], _ => none
  | k :: ks, g => if g = k then some 0 else (pos ks g).map (· + 1)
theorem pos_some : ∀ {ks : List Nat} {g j : Nat}, pos ks g = some j → j < ks.length ∧ ks.getD j 0 = g
  | [], g, j, h => by simp [pos] at h
  | k :: ks, g, j, h => by
    rw [pos] at h
    split at h
    · rename_i hk; cases h; exact ⟨by simp, by simp [hk]⟩
    · obtain ⟨i, hi, rfl⟩ := Option.map_eq_some_iff.1 h
      obtain ⟨h1, h2⟩ := pos_some hi
      exact ⟨by simp; omega, by simpa using h2⟩
theorem pos_none : ∀ {ks : List Nat} {g : Nat}, pos ks g = none → g ∉ ks
  | [], g, _ => by simp
  | k :: ks, g, h => by
    rw [pos] at h
    split at h
    · cases h
    · rename_i hk
      have := pos_none (Option.map_eq_none_iff.1 h)
      simp [hk, this]

def frzL (w : Nat) (ys : List AV) : AV := bif pureL ys then .lst w ys else .any
def frzP (y : AV) : AV := bif y.pure then .cptr y else .any

/-- x, told in the new numbers. -/
def rnV (b : Nat) (H : AHeap) (ks : List Nat) : Nat → AV → AV
  | 0, x => bif x.pure then x else .any
  | d + 1, .ref g v off len => if g < b then .ref g v off len else if v = (H.at_ g).ver then
      (match pos ks g with
       | some j => .ref (b + j) 1 off len
       | none => if 0 < (H.at_ g).w ∧ off + len ≤ (H.at_ g).xs.length then frzL (H.at_ g).w ((((H.at_ g).xs.drop off).take len).map (rnV b H ks d)) else .any)
      else .any
  | d + 1, .ptr g v i o => if g < b then .ptr g v i o else if v = (H.at_ g).ver then
      (match pos ks g with
       | some j => .ptr (b + j) 1 i o
       | none => if o = 0 ∧ i < (H.at_ g).xs.length ∧ 0 < (H.at_ g).w then frzP (rnV b H ks d ((H.at_ g).xs.getD i .any)) else .any)
      else .any
  | _ + 1, .map g v => if g < b then .map g v else if v = (H.at_ g).ver then (match pos ks g with | some j => .map (b + j) 1 | none => .any) else .any
  | d + 1, .agg cs => .agg (cs.map (rnV b H ks d))
  | d + 1, .tup cs => .tup (cs.map (rnV b H ks d))
  | d + 1, .fn f cs => .fn f (cs.map (rnV b H ks d))
  | _ + 1, x => x

def inv (b : Nat) (ks : List Nat) (j : Nat) : Nat := if j < b then j else ks.getD (j - b) 0
def MS.repack (S : MS) (b : Nat) (H : AHeap) (ks : List Nat) : MS where
  w := S.w
  im := fun c => S.im c ∨ ∃ g, g < H.n ∧ b ≤ g ∧ g ∉ ks ∧ 0 < (H.at_ g).w ∧ 0 < S.cap g ∧ c = S.place g
  keep := S.keep
  n := b + ks.length
  place := fun j => S.place (inv b ks j)
  cur := fun j => if j < b then S.cur j else 1
  cap := fun j => S.cap (inv b ks j)
  wid := fun j => S.wid (inv b ks j)
  base := S.base
def AHeap.repack (H : AHeap) (b : Nat) (ks : List Nat) (d : Nat) : AHeap := ⟨b + ks.length, fun j => ⟨(H.at_ (inv b ks j)).w, if j < b then (H.at_ j).ver else 1, (H.at_ (inv b ks j)).exact, (H.at_ (inv b ks j)).xs.map (rnV b H ks d)⟩⟩

section
variable {S : MS} {H : AHeap} {b : Nat} {ks : List Nat}

theorem inv_old {j : Nat} (h : j < b) : inv b ks j = j := if_pos h
theorem inv_new {j : Nat} : inv b ks (b + j) = ks.getD j 0 := by
  have h1 : b + j - b = j := by omega
  have h2 : ¬ b + j < b := by omega
  rw [inv, if_neg h2, h1]

theorem rn_pure {x : AV} {v : Value} (hx : x.pure = true) (h : VRel S x v) : VRel (S.repack b H ks) x v := VRel.of_pure (S := S) (S' := S.repack b H ks) rfl (fun _ hb => .inl hb) hx h

theorem rn_ok (hS : SRel S H) : ∀ (d : Nat) {x : AV} {v : Value}, VRel S x v → VRel (S.repack b H ks) (rnV b H ks d x) v
  | 0, x, v, h => by
    rw [rnV]
    cases hp : x.pure
    · trivial
    · exact rn_pure hp h
  | d + 1, x, v, h => by
    have keyL : ∀ {cs : List AV} {vs : List Value}, VsRel S cs vs → VsRel (S.repack b H ks) (cs.map (rnV b H ks d)) vs := by
      intro cs
      induction cs with
      | nil => intro vs hh; exact hh
      | cons c cs ih =>
        intro vs hh
        obtain ⟨u, r, rfl, h1, h2⟩ := hh
        exact ⟨u, r, rfl, rn_ok hS d h1, ih h2⟩
    cases x with
    | ref g vn off len =>
      obtain ⟨⟨a, c, rfl, ha⟩, hg, hvn, hcur⟩ := h
      have hG := hS.live_of hg
      rw [rnV]
      split
      · rename_i hgb
        refine ⟨⟨a, c, rfl, ha⟩, by show g < b + _; omega, by show vn ≤ if g < b then _ else _; rw [if_pos hgb]; exact hvn, fun he => ?_⟩
        have he' : (if g < b then S.cur g else 1) = vn := he
        rw [if_pos hgb] at he'
        show ∃ a cap', _ = Value.slice a len cap' ∧ ((a = some ⟨S.place (inv b ks g), off * S.wid (inv b ks g), none⟩ ∧ cap' = S.cap (inv b ks g) - off ∧ off + len ≤ S.cap (inv b ks g)) ∨ (len = 0 ∧ cap' = 0 ∧ S.cap (inv b ks g) ≤ off))
        rw [inv_old hgb]
        exact hcur he'
      · split
        · rename_i hver
          have hh := hcur (by rw [hG.ver, hver])
          split
          · rename_i j hj
            obtain ⟨h1, h2⟩ := pos_some hj
            refine ⟨⟨a, c, rfl, ha⟩, by show b + j < b + _; omega, by show 1 ≤ if b + j < b then _ else 1; rw [if_neg (by omega)]; exact Nat.le_refl 1, fun _ => ?_⟩
            show ∃ a cap', _ = Value.slice a len cap' ∧ ((a = some ⟨S.place (inv b ks (b + j)), off * S.wid (inv b ks (b + j)), none⟩ ∧ cap' = S.cap (inv b ks (b + j)) - off ∧ off + len ≤ S.cap (inv b ks (b + j))) ∨ (len = 0 ∧ cap' = 0 ∧ S.cap (inv b ks (b + j)) ≤ off))
            rw [inv_new, h2]
            exact hh
          · rename_i hb hj
            have hnk := pos_none hj
            split
            · rename_i hw
              obtain ⟨hw, hol⟩ := hw
              unfold frzL
              cases hpu : pureL ((((H.at_ g).xs.drop off).take len).map (rnV b H ks d))
              · trivial
              · obtain ⟨a', cap', hv, hcase⟩ := hh
                obtain ⟨rfl, -, rfl⟩ : a = a' ∧ len = len ∧ c = cap' := by cases hv; exact ⟨rfl, rfl, rfl⟩
                have hl : ((((H.at_ g).xs.drop off).take len).map (rnV b H ks d)).length = len := by simp; omega
                show VRel _ (.lst _ _) _
                have hnone : a = none → c = 0 := fun hn => by
                  rcases hcase with ⟨rfl, _⟩ | ⟨_, hh, _⟩
                  · cases hn
                  · exact hh
                by_cases hc0 : S.cap g = 0
                · have hlen := hG.len hw
                  have hnil : ((H.at_ g).xs.drop off).take len = [] := List.eq_nil_of_length_eq_zero (by simp; omega)
                  simp only [hnil, List.map_nil] at hl ⊢
                  exact ⟨rfl, hw, a, c, [], by rw [← hl], ⟨Nat.zero_le _, hnone⟩, rfl, fun hne => absurd rfl hne⟩
                obtain ⟨⟨cells, TT, us, hb2, hcs, hus, hfl⟩, _⟩ := hG.live hw (by omega)
                refine ⟨hpu, hw, a, c, _, by rw [hl], ⟨?_, hnone⟩, keyL ((hus.drop off).take len), fun hne => ?_⟩
                · rw [hl]; rcases hcase with ⟨_, c2, c3⟩ | ⟨c1, c2, _⟩ <;> omega
                · rcases hcase with ⟨rfl, _, _⟩ | ⟨c1, _, _⟩
                  · refine ⟨_, _, rfl, .inr ⟨g, by rw [← hS.n]; exact hg, by omega, hnk, hw, by omega, rfl⟩, fun j u hu => ?_⟩
                    rw [List.getElem?_take] at hu
                    split at hu
                    · rw [List.getElem?_drop] at hu
                      have := hfl.row hb2 (off + j) u hu
                      rw [Nat.zero_add, Nat.add_mul] at this
                      rw [hG.wid]
                      exact this
                    · cases hu
                  · exact absurd (List.eq_nil_of_length_eq_zero (by rw [hl]; exact c1)) hne
            · trivial
        · trivial
    | ptr g vn i o =>
      obtain ⟨⟨a, rfl⟩, hg, hvn, hcur⟩ := h
      have hG := hS.live_of hg
      rw [rnV]
      split
      · rename_i hgb
        refine ⟨⟨a, rfl⟩, by show g < b + _; omega, by show vn ≤ if g < b then _ else _; rw [if_pos hgb]; exact hvn, fun he => ?_⟩
        have he' : (if g < b then S.cur g else 1) = vn := he
        rw [if_pos hgb] at he'
        show _ = Value.pointer (some ⟨S.place (inv b ks g), i * S.wid (inv b ks g) + o, none⟩)
        rw [inv_old hgb]
        exact hcur he'
      · split
        · rename_i hver
          have hh := hcur (by rw [hG.ver, hver])
          split
          · rename_i j hj
            obtain ⟨h1, h2⟩ := pos_some hj
            refine ⟨⟨a, rfl⟩, by show b + j < b + _; omega, by show 1 ≤ if b + j < b then _ else 1; rw [if_neg (by omega)]; exact Nat.le_refl 1, fun _ => ?_⟩
            show _ = Value.pointer (some ⟨S.place (inv b ks (b + j)), i * S.wid (inv b ks (b + j)) + o, none⟩)
            rw [inv_new, h2]
            exact hh
          · rename_i hb hj
            have hnk := pos_none hj
            split
            · rename_i hc
              obtain ⟨rfl, hi, hw⟩ := hc
              unfold frzP
              cases hpu : (rnV b H ks d ((H.at_ g).xs.getD i .any)).pure
              · trivial
              · show VRel _ (.cptr _) _
                obtain ⟨u, hu, hl⟩ := hG.elem hw hi
                have k1 := rn_ok hS d hu
                refine ⟨hpu, S.place g, i * (H.at_ g).w, u, ?_, .inr ⟨g, by rw [← hS.n]; exact hg, by omega, hnk, hw, by have := hG.len hw; omega, rfl⟩, k1, ?_⟩
                · rw [hh, hG.wid]; rfl
                · rw [hl.1]; exact hl
            · trivial
        · trivial
    | agg cs => obtain ⟨vs, rfl, hr⟩ := h; exact ⟨vs, rfl, keyL hr⟩
    | tup cs => obtain ⟨vs, rfl, hr⟩ := h; exact ⟨vs, rfl, keyL hr⟩
    | fn f cs => obtain ⟨vs, rfl, hr⟩ := h; exact ⟨vs, rfl, keyL hr⟩
    | full w xs => exact rn_pure h.1 h
    | map g vn =>
      obtain ⟨⟨a, rfl⟩, hg, hvn, hcur⟩ := h
      have hG := hS.live_of hg
      rw [rnV]
      split
      · rename_i hgb
        refine ⟨⟨a, rfl⟩, by show g < b + _; omega, by show vn ≤ if g < b then _ else _; rw [if_pos hgb]; exact hvn, fun he => ?_⟩
        have he' : (if g < b then S.cur g else 1) = vn := he
        rw [if_pos hgb] at he'
        show _ = Value.map (some (S.place (inv b ks g)))
        rw [inv_old hgb]
        exact hcur he'
      · split
        · rename_i hver
          have hh := hcur (by rw [hG.ver, hver])
          split
          · rename_i j hj
            obtain ⟨h1, h2⟩ := pos_some hj
            refine ⟨⟨a, rfl⟩, by show b + j < b + _; omega, by show 1 ≤ if b + j < b then _ else 1; rw [if_neg (by omega)]; exact Nat.le_refl 1, fun _ => ?_⟩
            show _ = Value.map (some (S.place (inv b ks (b + j))))
            rw [inv_new, h2]
            exact hh
          · trivial
        · trivial
    | lst w xs => exact rn_pure h.1 h
    | cptr x => exact rn_pure h.1 h
    | any => trivial
    | bool _ => exact h
    | int _ _ => exact h
    | str _ => exact h
    | nilS => exact h
    | nul => exact h
    | emp => exact h
    | nilP => exact h
    | nilF => exact h

theorem repack_evo (hS : SRel S H) (hb : b ≤ S.n) : BEvo b S (S.repack b H ks) where
  base := rfl
  os := rfl
  tape := rfl
  output := rfl
  size := Nat.le_refl _
  kept _ _ := rfl
  im _ h := .inl h
  keep _ h := h
  fresh c hc := by
    rcases hc with hc | ⟨g, hg, _, _, hw, hcap, rfl⟩
    · exact .inl hc
    · exact .inr fun hk => ((hS.grp g hg).live hw hcap).2 (.inr hk)
  n := Nat.le_add_right _ _
  cur g hg := by show _ ≤ if g < b then S.cur g else 1; rw [if_pos hg]; exact Nat.le_refl _
  same g hg _ := by
    show S.place (inv b ks g) = _ ∧ S.cap (inv b ks g) = _ ∧ S.wid (inv b ks g) = _
    rw [inv_old hg]; exact ⟨rfl, rfl, rfl⟩

theorem repack_rel (d : Nat) (hS : SRel S H) (hb : b ≤ H.n) (hk : ∀ k ∈ ks, b ≤ k ∧ k < H.n) (hn : ks.Nodup) : SRel (S.repack b H ks) (H.repack b ks d) := by
  have keyL : ∀ {cs : List AV} {vs : List Value}, VsRel S cs vs → VsRel (S.repack b H ks) (cs.map (rnV b H ks d)) vs := by
    intro cs
    induction cs with
    | nil => intro vs hh; exact hh
    | cons c cs ih =>
      intro vs hh
      obtain ⟨u, r, rfl, h1, h2⟩ := hh
      exact ⟨u, r, rfl, rn_ok hS d h1, ih h2⟩
  have hinv : ∀ j, j < b + ks.length → inv b ks j < H.n ∧ (j < b ∨ b ≤ inv b ks j ∧ inv b ks j ∈ ks) := by
    intro j hj
    by_cases hjb : j < b
    · rw [inv_old hjb]; exact ⟨by omega, .inl hjb⟩
    · have h1 : j - b < ks.length := by omega
      have : inv b ks j = ks[j - b] := by simp [inv, hjb, List.getD, List.getElem?_eq_getElem h1]
      rw [this]
      have := hk _ (List.getElem_mem h1)
      exact ⟨this.2, .inr ⟨this.1, List.getElem_mem h1⟩⟩
  refine ⟨rfl, fun j hj => ?_, fun j j' hj hj' hne hw hw' => ?_, fun c hc => ?_⟩
  · obtain ⟨h1, h2⟩ := hinv j hj
    have hG := hS.grp _ h1
    have hni : (H.at_ (inv b ks j)).has (S.cap (inv b ks j)) → ¬ ((S.repack b H ks).im (S.place (inv b ks j)) ∨ (S.repack b H ks).keep (S.place (inv b ks j))) := fun hq => by
      have a5 := hG.has_ni hq
      rintro ((hi | ⟨g, hg, hbg, hnk, hw', hc', he⟩) | hi)
      · exact a5 (.inl hi)
      · have hne : inv b ks j ≠ g := by
          intro hh
          rcases h2 with h2 | h2
          · rw [inv_old h2] at hh; omega
          · exact hnk (hh ▸ h2.2)
        exact hS.apart _ g h1 hg hne hq (.inl ⟨hw', hc'⟩) he
      · exact a5 (.inr hi)
    refine ⟨?_, hG.wid, fun hw hc => ?_, fun hw => ?_, fun hw he => ?_, fun hw he => ?_⟩
    · show (if j < b then S.cur j else 1) = if j < b then (H.at_ j).ver else 1
      split
      · rename_i hjb; rw [inv_old hjb] at hG; exact hG.ver
      · rfl
    · obtain ⟨⟨cells, TT, us, a1, a2, a3, a4⟩, a5⟩ := hG.live hw hc
      exact ⟨⟨cells, TT, us, a1, a2, keyL a3, a4⟩, hni (.inl ⟨hw, hc⟩)⟩
    · show ((H.at_ (inv b ks j)).xs.map _).length ≤ _; rw [List.length_map]; exact hG.len hw
    · show ((H.at_ (inv b ks j)).xs.map _).length = _; rw [List.length_map]; exact hG.full hw he
    · obtain ⟨⟨es, clock, a1, a2⟩, a5⟩ := hG.mlive hw he
      exact ⟨⟨es, clock, a1, keyL a2⟩, hni (.inr ⟨hw, he⟩)⟩
  · obtain ⟨h1, h2⟩ := hinv j hj
    obtain ⟨h1', h2'⟩ := hinv j' hj'
    refine hS.apart _ _ h1 h1' ?_ hw hw'
    intro hh
    rcases h2 with h2 | ⟨h2, h3⟩ <;> rcases h2' with h2' | ⟨h2', h3'⟩
    · rw [inv_old h2, inv_old h2'] at hh; exact hne hh
    · rw [inv_old h2] at hh; omega
    · rw [inv_old h2'] at hh; omega
    · have hjb : ¬ j < b := fun h => by rw [inv_old h] at h2; omega
      have hjb' : ¬ j' < b := fun h => by rw [inv_old h] at h2'; omega
      have e1 : j - b < ks.length := by have : j < b + ks.length := hj; omega
      have e2 : j' - b < ks.length := by have : j' < b + ks.length := hj'; omega
      have f1 : inv b ks j = ks[j - b] := by simp [inv, hjb, List.getD, List.getElem?_eq_getElem e1]
      have f2 : inv b ks j' = ks[j' - b] := by simp [inv, hjb', List.getD, List.getElem?_eq_getElem e2]
      rw [f1, f2] at hh
      have := (List.getElem_inj hn).1 hh
      omega
  · rcases hc with (hc | ⟨g, hg, _, _, hw, hcap, rfl⟩) | hc
    · exact hS.im c (.inl hc)
    · exact (hS.grp g hg).lt hw hcap
    · exact hS.im c (.inr hc)

/-- At any point of the code. -/
theorem T_repack {P : Program} {n : Nat} {c : AC} {env : Env} {Q : Ex → Env → AHeap → Prop} (ks : List Nat) (d : Nat) (hb : b ≤ H.n) (hk : ∀ k ∈ ks, b ≤ k ∧ k < H.n) (hn : ks.Nodup)
    (h : T P n b c (fun i => rnV b H ks d (env i)) (H.repack b ks d) Q) : T P n b c env H Q := by
  intro rd mm hrd code hc S a hbS hS hF
  have hev := repack_evo (ks := ks) hS hbS
  refine wpIn_mono (h rd mm hrd code hc (S.repack b H ks) a (Nat.le_add_right _ _) (repack_rel d hS hb hk hn) ⟨hF.size, hF.defers.of hev.base hev.size hev.keep hev.fresh (fun b hb => hev.kept b (.inr hb)), fun j hj => rn_ok hS d (hF.val j hj)⟩) fun e a w hh => hh.trans (repack_evo hS hbS)
end
end Go.Proofs.Ytdmjhlofphhldaa.Abs
