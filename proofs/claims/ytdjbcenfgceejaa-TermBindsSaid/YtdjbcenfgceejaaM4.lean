/-
  Plain laws of layer 4: what terms put together, and bound, tell.
-/
import Derived.Test.YtdjbcenfgceejaaC6
set_option linter.unusedSimpArgs false
set_option linter.unusedVariables false
namespace Go.Proofs.Ytdjbcenfgceejaa
open Abs
abbrev wr (n : Int) : Int := IntKind.i64.wrap n
theorem wr_eq (n : Int) : wr n = (n + 9223372036854775808) % 18446744073709551616 - 9223372036854775808 := by
  show IntKind.i64.wrap n = _
  rw [IntWalk.i64_left]
  unfold RowKit.wrap64
  rfl
theorem wr_in {n : Int} (h : -9223372036854775808 ≤ n ∧ n ≤ 9223372036854775807) : wr n = n := by rw [wr_eq]; omega
theorem wr_wr (a b : Int) : wr (wr a + b) = wr (a + b) := by rw [wr_eq, wr_eq a, wr_eq (a + b)]; omega
theorem wr_bd (a : Int) : -9223372036854775808 ≤ wr a ∧ wr a ≤ 9223372036854775807 := by rw [wr_eq]; omega
def totP (w : List Int) : List Part → Int
  | [] => 0
  | p :: l => val1 p (nth w p.at_.toNat) + totP w l
def rightsL (w : List Int) (l : List Part) : Bool := l.all fun p => rightB p w.length
theorem sum_tot (w : List Int) : ∀ (l : List Part) (a : Int), wr a = a → sumP w l a = if rightsL w l then some (wr (a + totP w l)) else none
  | [], a, h => by simp [sumP, rightsL, totP, h]
  | p :: l, a, h => by
    rw [sumP]
    cases hp : rightB p w.length
    · simp [rightsL, hp]
    · have ih := sum_tot w l (wr (a + val1 p (nth w p.at_.toNat))) (by rw [wr_in (wr_bd _)])
      rw [if_pos rfl]
      have e : wr (wr (a + val1 p (nth w p.at_.toNat)) + totP w l) = wr (a + totP w (p :: l)) := by rw [wr_wr, totP]; congr 1; omega
      rw [e] at ih
      simp only [rightsL, List.all_cons, hp, Bool.true_and] at ih ⊢
      exact ih
theorem value_some {t : Term} {w : List Int} {v : Int} (h : valueT t w = some v) : w.all symB = true ∧ ∃ s, sumP w t.parts t.sum = some s ∧ valB t.outer s = true ∧ s ≤ 1114111 ∧ v = wr (t.base + valP t.outer s) := by
  unfold valueT at h
  split at h
  · rename_i hw
    split at h
    · rename_i s hs
      split at h
      · rename_i hc
        simp only [Bool.and_eq_true, decide_eq_true_eq] at hc
        cases h
        exact ⟨hw, s, hs, hc.1, hc.2, rfl⟩
      · cases h
    · cases h
  · cases h
theorem value_mk {t : Term} {w : List Int} {s : Int} (hw : w.all symB = true) (hs : sumP w t.parts t.sum = some s) (hv : valB t.outer s = true) (hle : s ≤ 1114111) : valueT t w = some (wr (t.base + valP t.outer s)) := by
  simp only [valueT, hw, hs, hv, hle, if_true, decide_true, Bool.and_self]
theorem whole_val {p : Part} {x : Int} (h : wholeB p = true) (hx : 0 ≤ x ∧ x ≤ 2097151) : bitsB p = true ∧ valB p x = true ∧ valP p x = x := by
  simp only [wholeB, decide_eq_true_eq] at h
  obtain ⟨h1, h2, h3⟩ := h
  have hb : bitsB p = true := by simp [bitsB, h1, h2, h3]
  refine ⟨hb, (val_yes hb hx).1, ?_⟩
  rw [valP, h1, h2, h3]
  show x / 2 ^ 0 % 2 ^ 21 * 2 ^ 0 = x
  omega
theorem plain_spec {t : Term} (h : plainB t = true) : t.base = 0 ∧ wholeB t.outer = true := by
  simp only [plainB, decide_eq_true_eq] at h
  obtain ⟨h0, h1, h2, h3⟩ := h
  exact ⟨h0, by simp [wholeB, h1, h2, h3]⟩
theorem put_len (u t : Term) : ((putT u t).getD zeroT).parts.length ≤ u.parts.length + t.parts.length := by
  unfold putT
  repeat' split
  all_goals simp [zeroT]
theorem valP_bd {p : Part} {x : Int} (hb : bitsB p = true) (hx : 0 ≤ x ∧ x ≤ 2097151) : 0 ≤ valP p x ∧ valP p x ≤ 4398046511104 := by
  rw [bits_iff] at hb
  have hd := pow21 p.drop.toNat (by omega)
  have ht := pow21 p.take.toNat (by omega)
  have hu := pow21 p.up.toNat (by omega)
  have q0 : 0 ≤ x / 2 ^ p.drop.toNat := Int.ediv_nonneg hx.1 (by omega)
  have m0 := Int.emod_nonneg (x / 2 ^ p.drop.toNat) (b := 2 ^ p.take.toNat) (by omega)
  have m1 := Int.emod_lt_of_pos (x / 2 ^ p.drop.toNat) (b := 2 ^ p.take.toNat) (by omega)
  unfold valP
  have : x / 2 ^ p.drop.toNat % 2 ^ p.take.toNat * 2 ^ p.up.toNat ≤ 2097152 * 2097152 := Int.mul_le_mul (by omega) (by omega) (by omega) (by omega)
  have : 0 ≤ x / 2 ^ p.drop.toNat % 2 ^ p.take.toNat * 2 ^ p.up.toNat := Int.mul_nonneg (by omega) (by omega)
  omega
theorem valB_spec {p : Part} {x : Int} (h : valB p x = true) : bitsB p = true ∧ 0 ≤ x ∧ x ≤ 2097151 := by
  simp only [valB, Bool.and_eq_true, decide_eq_true_eq] at h
  exact h
/-- P4.6 of what is put together. -/
theorem put_value {u t a : Term} {w : List Int} {v x : Int} (ht : wr t.sum = t.sum) (hp : putT u t = some a) (hv : valueT t w = some v) (hv2 : 0 ≤ v ∧ v ≤ 1114111) (hx : valueT u [v] = some x) : valueT a w = some x := by
  obtain ⟨hw, s, hs, hvb, hle, hve⟩ := value_some hv
  obtain ⟨_, r, hr, hrb, hrle, hxe⟩ := value_some hx
  unfold putT at hp
  split at hp
  · rename_i h0
    cases hp
    have hn : u.parts = [] := List.eq_nil_of_length_eq_zero (by omega)
    rw [hn] at hr
    rw [hxe]
    exact value_mk hw (by rw [hn]; exact hr) hrb hrle
  · rename_i h0
    split at hp
    · cases hp
    · rename_i h1
      split at hp
      · cases hp
      · rename_i hwh
        split at hp
        · cases hp
        · rename_i hsm
          have hus := small_bd (x := u.sum) (by simpa using hsm)
          obtain ⟨p, hpp⟩ : ∃ p, u.parts = [p] := by
            match hu : u.parts with
            | [] => rw [hu] at h0; simp at h0
            | [p] => exact ⟨p, rfl⟩
            | p :: q :: l => rw [hu] at h1; simp at h1; omega
          have hp0 : whole0 p = true := by rw [hpp] at hwh; simpa [nth_zero] using hwh
          rw [whole_iff, Bool.and_eq_true, decide_eq_true_eq] at hp0
          obtain ⟨pb, pv, pe⟩ := whole_val hp0.2 (x := v) (by omega)
          have hr1 : r = u.sum + v := by
            rw [hpp] at hr
            have hright : rightB p ((([v] : List Int).length : Nat) : Int) = true := by simp [rightB, hp0.1, pb]
            have hv1 : val1 p v = v := by rw [val1, if_pos pv, pe]
            have hn : nth ([v] : List Int) p.at_.toNat = v := by rw [hp0.1]; rfl
            simp only [sumP, hright, if_true, hn, hv1, Option.some.injEq] at hr
            rw [← hr]
            exact wr_in (by omega)
          subst hr1
          split at hp
          · rename_i hpl
            obtain ⟨tb, tw⟩ := plain_spec hpl
            split at hp
            · cases hp
            · split at hp
              · cases hp
              · rename_i hts hus2
                cases hp
                have hts := small_bd (x := t.sum) (by simpa using hts)
                have hus2 := small_bd (x := u.sum + t.sum) (by simpa using hus2)
                obtain ⟨_, _, te⟩ := whole_val tw (x := s) (valB_spec hvb).2
                have hvs : v = s := by
                  rw [hve, tb, te, Int.zero_add]
                  exact wr_in (by have := valB_spec hvb; omega)
                subst hvs
                rw [sum_tot w _ _ (wr_in (by omega))] at hs
                split at hs
                · rename_i hall
                  cases hs
                  have hsum : sumP w t.parts (u.sum + t.sum) = some (u.sum + wr (t.sum + totP w t.parts)) := by
                    rw [sum_tot w _ _ (wr_in (by omega)), if_pos hall]
                    congr 1
                    have : wr (u.sum + t.sum + totP w t.parts) = wr (wr (t.sum + totP w t.parts) + u.sum) := by rw [wr_wr]; congr 1; omega
                    rw [this, Int.add_comm]
                    exact wr_in (by omega)
                  rw [hxe]
                  exact value_mk (t := ⟨u.base, u.drop, u.take, u.up, u.sum + t.sum, t.parts⟩) hw hsum hrb hrle
                · cases hs
          · rename_i hpl
            split at hp
            · cases hp
            · rename_i hup
              obtain ⟨ub, uw⟩ := plain_spec (t := u) (by simpa using hup)
              split at hp
              · cases hp
              · split at hp
                · cases hp
                · rename_i htb hub2
                  cases hp
                  have htb := small_bd (x := t.base) (by simpa using htb)
                  have hub2 := small_bd (x := u.sum + t.base) (by simpa using hub2)
                  obtain ⟨_, _, ue⟩ := whole_val uw (x := u.sum + v) (valB_spec hrb).2
                  have hbd := valP_bd (valB_spec hvb).1 (valB_spec hvb).2
                  rw [wr_in (by omega)] at hve
                  have h2 := value_mk (t := ⟨u.sum + t.base, t.drop, t.take, t.up, t.sum, t.parts⟩) hw hs hvb hle
                  rw [h2, hxe, ub, ue, Int.zero_add]
                  congr 2
                  show u.sum + t.base + valP t.outer s = u.sum + v
                  omega
/-! ### Bound -/
theorem bind_spec {w : List Int} {a : Int} (ha : 0 ≤ a ∧ a < w.length) (hw : w.all symB = true) : ∀ (l : List Part) (s : Int) (m : List Part), wr s = s → rightsL w l = true → (∀ p ∈ m, rightB p 1 = true) →
    ∃ m', (bindF w a l s m).2 = m ++ m' ∧ (∀ p ∈ m', rightB p 1 = true) ∧ wr (bindF w a l s m).1 = (bindF w a l s m).1 ∧ wr ((bindF w a l s m).1 + totP [nth w a.toNat] m') = wr (s + totP w l) ∧ (m' = [] → (bindF w a l s m).1 = wr (s + totP w l))
  | [], s, m, hs, _, _ => ⟨[], by simp [bindF], (fun _ h => by cases h), by simpa [bindF] using hs, by simp [bindF, totP], fun _ => by simp [bindF, totP, hs]⟩
  | p :: l, s, m, hs, hr, hm => by
    simp only [rightsL, List.all_cons, Bool.and_eq_true] at hr
    have hra := right_at hr.1
    have hbits : bitsB p = true := by have := hr.1; simp only [rightB, Bool.and_eq_true] at this; exact this.2
    have hsym : 0 ≤ nth w p.at_.toNat ∧ nth w p.at_.toNat ≤ 1114111 := by
      have := List.all_eq_true.1 hw _ (nth_mem (l := w) (i := p.at_.toNat) (by omega))
      simpa [symB] using this
    have hvb : valB p (nth w p.at_.toNat) = true := (val_yes hbits (by omega)).1
    rw [bindF]
    by_cases hat : p.at_ = a
    · rw [if_pos hat]
      have hr0 : rightB (⟨0, p.drop, p.take, p.up⟩ : Part) 1 = true := by
        simp only [rightB, Bool.and_eq_true, decide_eq_true_eq]
        exact ⟨by omega, by simpa [bitsB] using hbits⟩
      obtain ⟨m', h1, h2, h3, h4, h5⟩ := bind_spec ha hw l s (m ++ [⟨0, p.drop, p.take, p.up⟩]) hs hr.2 (fun q hq => by
        rcases List.mem_append.1 hq with hq | hq
        · exact hm q hq
        · rw [List.mem_singleton.1 hq]; exact hr0)
      have hv0 : val1 (⟨0, p.drop, p.take, p.up⟩ : Part) (nth ([nth w a.toNat] : List Int) (0 : Int).toNat) = val1 p (nth w p.at_.toNat) := by
        rw [hat]
        rfl
      refine ⟨⟨0, p.drop, p.take, p.up⟩ :: m', by rw [h1, List.append_assoc]; rfl, fun q hq => ?_, h3, ?_, fun h => by cases h⟩
      · rcases List.mem_cons.1 hq with rfl | hq
        · exact hr0
        · exact h2 q hq
      · rw [totP, totP, hv0]
        have e1 : ∀ X Y Z : Int, wr (X + (Y + Z)) = wr (wr (X + Z) + Y) := fun X Y Z => by rw [wr_wr]; congr 1; omega
        rw [e1, h4, ← e1]
    · rw [if_neg hat, if_pos ⟨hra.1, hra.2, hvb⟩]
      obtain ⟨m', h1, h2, h3, h4, h5⟩ := bind_spec ha hw l (wr (s + val1 p (nth w p.at_.toNat))) m (wr_in (wr_bd _)) hr.2 hm
      have e : wr (wr (s + val1 p (nth w p.at_.toNat)) + totP w l) = wr (s + totP w (p :: l)) := by rw [wr_wr, totP]; congr 1; omega
      rw [e] at h4 h5
      exact ⟨m', h1, h2, h3, h4, h5⟩
/-- P4.6 of what is bound. -/
theorem bind_value {t : Term} {w : List Int} {a v : Int} (ht : wr t.sum = t.sum) (ha : 0 ≤ a ∧ a < w.length) (hv : valueT t w = some v) : valueT (bindT t w a) [nth w a.toNat] = some v := by
  obtain ⟨hw, s, hs, hvb, hle, hve⟩ := value_some hv
  rw [sum_tot w _ _ ht] at hs
  split at hs
  · rename_i hall
    cases hs
    obtain ⟨m', h1, h2, h3, h4, h5⟩ := bind_spec ha hw t.parts t.sum [] ht hall (fun _ h => by cases h)
    have hsum : sumP [nth w a.toNat] (bindT t w a).parts (bindT t w a).sum = some (wr (t.sum + totP w t.parts)) := by
      show sumP [nth w a.toNat] (bindF w a t.parts t.sum []).2 (bindF w a t.parts t.sum []).1 = _
      rw [sum_tot _ _ _ h3, if_pos, h1, List.nil_append, h4]
      rw [h1, List.nil_append]
      exact List.all_eq_true.2 fun p hp => h2 p hp
    have hw1 : ([nth w a.toNat] : List Int).all symB = true := by
      simp only [List.all_cons, List.all_nil, Bool.and_true]
      exact List.all_eq_true.1 hw _ (nth_mem (by omega))
    rw [value_mk hw1 hsum hvb hle, hve]
    rfl
  · cases hs
theorem bindF_len {w : List Int} {a : Int} : ∀ (l : List Part) (s : Int) (m : List Part), (bindF w a l s m).2.length ≤ l.length + m.length
  | [], s, m => by simp [bindF]
  | p :: l, s, m => by
    rw [bindF]
    split
    · have := bindF_len (w := w) (a := a) l s (m ++ [⟨0, p.drop, p.take, p.up⟩]); simp at this ⊢; omega
    · split
      · have := bindF_len (w := w) (a := a) l (IntKind.i64.wrap (s + val1 p (nth w p.at_.toNat))) m; simp at this ⊢; omega
      · have := bindF_len (w := w) (a := a) l s (m ++ [p]); simp at this ⊢; omega
theorem bind_len (t : Term) (w : List Int) (a : Int) : (bindT t w a).parts.length ≤ t.parts.length := by
  have := bindF_len (w := w) (a := a) t.parts t.sum []
  simpa [bindT] using this
theorem slice1 (w : List Int) (a : Int) (h : 0 ≤ a ∧ a < w.length) : List.drop a.toNat (List.take (a + 1).toNat w) = [nth w a.toNat] := by
  have e : (a + 1).toNat = a.toNat + 1 := by omega
  rw [e, take_at (by omega)]
  have : a.toNat = (List.take a.toNat w).length := by rw [List.length_take]; omega
  conv => lhs; arg 1; rw [this]
  rw [List.drop_left']
  simp
end Go.Proofs.Ytdjbcenfgceejaa
