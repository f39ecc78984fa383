/-
  A region whose order is drawn, in which slices grow beside operations that look at other groups.
-/
import Derived.Test.YtdmjhlofphhldaaAbsJ
set_option linter.unusedSimpArgs false
set_option linter.unusedVariables false
namespace Go.Proofs.Ytdmjhlofphhldaa.Abs
section
variable {P : Program} {n : Nat} {ops : Array Oper} {md : Region.Mode} {rd : Option Nat} {mm : Nat}

theorem QG.away {k : AK} {l l' : List Grp} (hlen : l.length ≤ l'.length) {xs : List AV} {x : AV} (hx : onRefs (fun g => g < l.length → l'.getD g default = l.getD g default) xs) (h : QG P k l xs x) : QG P k l' xs x := by
  rcases h with h | h | ⟨h1, h2, h3⟩
  · exact .inl h
  · exact .inr (.inl h)
  · have key : ∀ {xs : List AV} {p q : Nat → Prop}, onRefs p xs → onRefs q xs → onRefs (fun g => p g ∧ q g) xs := by
      intro xs
      induction xs with
      | nil => intro p q _ _; trivial
      | cons a r ih =>
        intro p q hp hq
        cases a <;> simp only [onRefs] at hp hq ⊢ <;> first | exact ih hp hq | exact ⟨⟨hp.1, hq.1⟩, ih hp.2 hq.2⟩
    refine .inr (.inr ⟨h1, onRefs_mono (fun g hg => by omega) h2, still_same h1 (onRefs_mono (fun g hg => ?_) (key h2 hx)) h3⟩)
    rw [hl_at, hl_at]
    exact hg.2 hg.1

/-- One operation; 'f': it must look at none of the groups ks; an append changes none but these. -/
def StepX (P : Program) (f : Bool) (ks : List Nat) (q : AOp) (x : AV) (env : Env) (l l' : List Grp) : Prop :=
  StepG P q x env l l' ∧ (Lets q env → f = true → onRefs (· ∉ ks) (q.vals env)) ∧ (q.k.eff = some 2 → l.length ≤ l'.length ∧ ∀ g, g ∉ ks → g < l.length → l'.getD g default = l.getD g default)

def anyX (P : Program) (fl : List Bool) (ks : List Nat) (md : Region.Mode) (ops : Array Oper) (L : List AOp) (Q : Env → List Grp → Prop) : Nat → Array Bool → Env → List Grp → Prop
  | 0, listed, env, l => Region.ready md ops listed = [] ∧ Q env l
  | f + 1, listed, env, l => (Region.ready md ops listed = [] → Q env l) ∧ ∀ i ∈ Region.ready md ops listed, ∃ q x l', L[i]? = some q ∧ StepX P (fl.getD i false) ks q x env l l' ∧ anyX P fl ks md ops L Q f (listed.setIfInBounds i true) (env.put q.dst x) l'

theorem anyX_sound {fl : List Bool} {ks : List Nat} {L : List AOp} (hL : ops.toList.mapM (compOp P n ops) = some L) {Q : Env → List Grp → Prop} {Q' : Exit → Act → World → Prop} : ∀ (fuel : Nat) (listed : Array Bool) (env : Env) (l : List Grp) (S : MS) (a : Act), anyX P fl ks md ops L Q fuel listed env l → SRel S (hl l) → FRel S n env a →
    (∀ S' env' l' a', Evo S S' → SRel S' (hl l') → FRel S' n env' a' → Q env' l' → Q' .normal a' S'.w) → wpAnyIn (fen rd) mm P md ops Q' fuel listed a S.w
  | 0, listed, env, l, S, a, h, hS, hF, hQ => ⟨h.1, hQ S env l a (.refl S) hS hF h.2⟩
  | fuel + 1, listed, env, l, S, a, h, hS, hF, hQ => by
    refine ⟨fun h0 => hQ S env l a (.refl S) hS hF (h.1 h0), fun i hi => ?_⟩
    obtain ⟨q, x, l', hq, hy, hrest⟩ := h.2 i hi
    obtain ⟨_, o, ho, _⟩ := mem_ready.1 hi
    obtain ⟨q', hq', hc⟩ := mapM_get hL (i := i) (o := o) (by simpa using ho)
    rw [hq] at hq'
    cases hq'
    exact stepG_ok hS hF ho hc hy.1 fun S' a' e hS' hF' => anyX_sound hL fuel _ _ _ S' a' hrest hS' hF' fun S2 env2 l2 a2 e2 hS2 hF2 hQ2 => hQ S2 env2 l2 a2 (e.trans e2) hS2 hF2 hQ2

theorem stepX_put {f : Bool} {ks : List Nat} {o : Oper} {q : AOp} (h : compOp P n ops o = some q) {dst : Option Nat} (hd : ∀ d, dst = some d → d ∉ o.looksAt ops) {env : Env} {x y : AV} {l l' : List Grp} : StepX P f ks q y (env.put dst x) l l' ↔ StepX P f ks q y env l l' := by
  obtain ⟨h1, h2, h3⟩ := vals_put h hd env x
  unfold StepX
  rw [stepG_put h hd, h1, h2]

theorem anyX_first {fl : List Bool} {ks : List Nat} {L : List AOp} (hL : ops.toList.mapM (compOp P n ops) = some L) {Q : Env → List Grp → Prop} {i : Nat} {oi : Oper} {qi : AOp} {x : AV} (hi : ops[i]? = some oi) (hqi : L[i]? = some qi)
    (hpair : ∀ j, i < j → match L[j]? with | some qj => (qi.k.eff = none ∧ (qj.k.eff = none ∨ commB qi.k qj.k = true ∨ fl.getD i false = true ∧ qj.k.eff = some 2)) ∨ Region.waitsFor md ops j i = true | none => True) : ∀ (fuel : Nat) (listed : Array Bool) (env : Env) (l l1 : List Grp),
    (∀ j, j < i → listed.getD j true = true) →
    (∀ j oj, ops[j]? = some oj → j ≠ i → listed.getD j true = false → (∀ e ∈ oj.after, Region.binds md e = true → e.on ≠ i) → oi.apart ops oj = true) →
    i ∈ Region.ready md ops listed → StepX P (fl.getD i false) ks qi x env l l1 → anyX P fl ks md ops L Q fuel (listed.setIfInBounds i true) (env.put qi.dst x) l1 → anyX P fl ks md ops L Q (fuel + 1) listed env l := by
  have hci : compOp P n ops oi = some qi := by
    obtain ⟨q, hq, hc⟩ := mapM_get hL (i := i) (o := oi) (by simpa using hi)
    rw [hqi] at hq; cases hq; exact hc
  intro fuel
  induction fuel with
  | zero =>
    intro listed env l l1 _ _ hr hy h
    refine ⟨fun h => (by rw [h] at hr; cases hr), fun j hj => ?_⟩
    by_cases hji : j = i
    · subst hji; exact ⟨qi, x, l1, hqi, hy, h⟩
    · have := ready_mono hj hji
      rw [h.1] at this
      cases this
  | succ fuel ih =>
    intro listed env l l1 hlow hfree hr hy h
    refine ⟨fun h => (by rw [h] at hr; cases hr), fun j hj => ?_⟩
    by_cases hji : j = i
    · subst hji; exact ⟨qi, x, l1, hqi, hy, h⟩
    · obtain ⟨qj, xj, l2, hqj, hyj, hrest⟩ := h.2 j (ready_mono hj hji)
      obtain ⟨hjun, oj, hoj, hall⟩ := mem_ready.1 hj
      have hcj : compOp P n ops oj = some qj := by
        obtain ⟨q, hq, hc⟩ := mapM_get hL (i := j) (o := oj) (by simpa using hoj)
        rw [hqj] at hq; cases hq; exact hc
      have hun := (mem_ready.1 hr).1
      have hnot : ∀ e ∈ oj.after, Region.binds md e = true → e.on ≠ i := fun e he hb heq => by
        have h1 := hall e he hb
        rw [heq, getD_both hun] at h1
        cases h1
      have hij : i < j := by
        rcases Nat.lt_trichotomy i j with h1 | h1 | h1
        · exact h1
        · exact absurd h1.symm hji
        · rw [hlow j h1] at hjun; cases hjun
      obtain ⟨a1, a2, a3⟩ := Oper.apart_spec (hfree j oj hoj hji hjun hnot)
      have di : qi.dst = oi.dst := (compOp_spec hci).2.2.1
      have dj : qj.dst = oj.dst := (compOp_spec hcj).2.2.1
      have hfree' : ∀ k ok, ops[k]? = some ok → k ≠ i → (listed.setIfInBounds j true).getD k true = false →
          (∀ e ∈ ok.after, Region.binds md e = true → e.on ≠ i) → oi.apart ops ok = true := fun k ok hk hki hun hno => by
        refine hfree k ok hk hki ?_ hno
        by_cases hjk : j = k
        · subst hjk; exact hjun
        · rw [getD_set_ne true hjk] at hun; exact hun
      have hlow' : ∀ k, k < i → (listed.setIfInBounds j true).getD k true = true := fun k hk => by
        rw [getD_set_ne true (by omega)]
        exact hlow k hk
      have hp : qi.k.eff = none ∧ (qj.k.eff = none ∨ commB qi.k qj.k = true ∨ fl.getD i false = true ∧ qj.k.eff = some 2) := by
        have h1 := hpair j hij
        rw [hqj] at h1
        rcases h1 with h1 | h1
        · exact h1
        · obtain ⟨oj', hoj', e, he, hb, hon⟩ := Region.waitsFor_spec h1
          have : oj' = oj := Option.some.inj (hoj'.symm.trans hoj)
          subst this
          exact absurd hon (hnot e he hb)
      have hl1 : l1 = l := by
        rcases hy.1 with ⟨_, ⟨_, _, hh⟩ | ⟨hh, _⟩⟩ | ⟨_, _, hh⟩
        · exact hh
        · exact absurd hp.1 hh
        · exact hh
      subst hl1
      have hyj' := (stepX_put hcj (by rw [di]; exact a1)).1 hyj
      have hyi : StepX P (fl.getD i false) ks qi x env l2 l2 := by
        refine ⟨?_, hy.2.1, fun h2 => by rw [hp.1] at h2; cases h2⟩
        rcases hyj'.1 with ⟨_, ⟨_, _, rfl⟩ | ⟨hne, _, hcm⟩⟩ | ⟨_, _, rfl⟩
        · exact hy.1
        · rcases hy.1 with ⟨b1, ⟨b2, b3, _⟩ | ⟨b2, _⟩⟩ | ⟨b1, b2, _⟩
          · refine .inl ⟨b1, .inl ⟨b2, ?_, rfl⟩⟩
            rcases hp.2.resolve_left hne with h3 | ⟨h3, h4⟩
            · exact hcm qi.k h3 _ _ b3
            · obtain ⟨c1, c2⟩ := hyj'.2.2 h4
              exact b3.away c1 (onRefs_mono (fun g hg => c2 g hg) (hy.2.1 b1 h3))
          · exact absurd hp.1 b2
          · exact .inr ⟨b1, b2, rfl⟩
        · exact hy.1
      refine ⟨qj, xj, l2, hqj, hyj', ih (listed.setIfInBounds j true) _ l2 l2 hlow' hfree' (ready_mono hr (Ne.symm hji)) ((stepX_put hci (by rw [dj]; exact a3)).2 hyi) ?_⟩
      rw [Array.setIfInBounds_comm _ _ hji, put_comm env xj x (by rw [di, dj]; intro d hd hh; exact a2 d hh hd)]
      exact hrest

/-- A region whose order is drawn, in the order of the text. -/
def runX (P : Program) (ks : List Nat) : List Bool → List AOp → Env → List Grp → (Env → List Grp → Prop) → Prop
  | _, [], env, l, K => K env l
  | fl, o :: r, env, l, K => guardK env o.guard fun w env =>
    if w then (if o.k.eff.isNone then (fl.headD false = true → onRefs (· ∉ ks) (o.vals env)) ∧ ∃ x, QG P o.k l (o.vals env) x ∧ runX P ks fl.tail r (env.put o.dst x) l K
      else ∃ x l', stepA P o.k (hl l) (o.vals env) (fun y H' => y = x ∧ H' = hl l') ∧ Comm P o.k l l' ∧ (o.k.eff = some 2 → l.length ≤ l'.length ∧ ∀ g, g ∉ ks → g < l.length → l'.getD g default = l.getD g default) ∧ (fl.headD false = true → onRefs (· ∉ ks) (o.vals env)) ∧ runX P ks fl.tail r (env.put o.dst x) l' K)
    else runX P ks fl.tail r (env.put o.dst (.tup [])) l K

theorem anyX_lex {fl : List Bool} {ks : List Nat} {L : List AOp} (hL : ops.toList.mapM (compOp P n ops) = some L) {Q : Env → List Grp → Prop}
    (hpair : ∀ i j qi, i < j → L[i]? = some qi → match L[j]? with | some qj => (qi.k.eff = none ∧ (qj.k.eff = none ∨ commB qi.k qj.k = true ∨ fl.getD i false = true ∧ qj.k.eff = some 2)) ∨ Region.waitsFor md ops j i = true | none => True) : ∀ (r : List Oper) (r' : List AOp) (k : Nat) (listed : Array Bool) (env : Env) (l : List Grp), (∀ j, r[j]? = ops[k + j]?) → (∀ j, r'[j]? = L[k + j]?) → r.length = r'.length → (∀ j, j < k → listed.getD j true = true) →
    Region.lexFrom md ops r.length k listed = true → runX P ks (fl.drop k) r' env l Q → anyX P fl ks md ops L Q r.length listed env l
  | [], [], _, _, _, _, _, _, _, _, hB, h => ⟨by simpa [Region.lexFrom] using hB, h⟩
  | o :: r, q :: r', k, listed, env, l, hr0, hr0', hlen, hlow, hB, h => by
    have h0 : ops[k]? = some o := by simpa using (hr0 0).symm
    have h0' : L[k]? = some q := by simpa using (hr0' 0).symm
    have hk : k < ops.size := (Array.getElem?_eq_some_iff.1 h0).1
    simp only [List.length_cons, Region.lexFrom, Bool.and_eq_true] at hB
    obtain ⟨⟨hr, hf⟩, hB'⟩ := hB
    simp only [runX] at h
    have hhd : (fl.drop k).headD false = fl.getD k false := by simp [List.headD_eq_head?_getD, List.head?_drop]
    have htl : (fl.drop k).tail = fl.drop (k + 1) := by simp
    rw [hhd, htl] at h
    have hr' : k ∈ Region.ready md ops listed := by simpa using hr
    have hlow' : ∀ j, j < k + 1 → (listed.setIfInBounds k true).getD j true = true := fun j hj => by
      by_cases hjk : k = j
      · subst hjk
        rcases Nat.lt_or_ge k listed.size with hs | hs
        · simp [hs]
        · simp [Array.getElem?_eq_none hs]
      · rw [getD_set_ne true hjk]
        exact hlow j (by omega)
    have ih := fun env' l' (hh : runX P ks (fl.drop (k + 1)) r' env' l' Q) => anyX_lex hL hpair r r' (k + 1) (listed.setIfInBounds k true) env' l' (fun j => by have := hr0 (j + 1); simpa [Nat.add_assoc, Nat.add_comm 1 j] using this) (fun j => by have := hr0' (j + 1); simpa [Nat.add_assoc, Nat.add_comm 1 j] using this) (by simpa using hlen) hlow' hB' hh
    have first := fun x l1 (hy : StepX P (fl.getD k false) ks q x env l l1) (hh : runX P ks (fl.drop (k + 1)) r' (env.put q.dst x) l1 Q) => anyX_first hL h0 h0' (fun j hj => hpair k j q hj h0') r.length listed env l l1 hlow (Region.free_spec h0 hf) hr' hy (ih _ _ hh)
    rcases guardK_yields h with ⟨h1, h2⟩ | ⟨h1, h2⟩
    · simp only [if_true] at h2
      cases he : q.k.eff with
      | none =>
        simp only [he, Option.isNone_none, if_true] at h2
        obtain ⟨hfl, x, hx, hK⟩ := h2
        exact first x l ⟨.inl ⟨h1, .inl ⟨he, hx, rfl⟩⟩, fun _ => hfl, fun hh => by rw [he] at hh; cases hh⟩ hK
      | some e =>
        simp only [he, Option.isNone_some, Bool.false_eq_true, if_false] at h2
        obtain ⟨x, l', b1, b3, b4, b5, b2⟩ := h2
        exact first x l' ⟨.inl ⟨h1, .inr ⟨by simp [he], b1, b3⟩⟩, fun _ => b5, fun hh => b4 (by rw [← he]; exact hh)⟩ b2
    · simp only [Bool.false_eq_true, if_false] at h2
      refine first (.tup []) l ⟨.inr ⟨h1, rfl, rfl⟩, fun hL' => ?_, fun _ => ⟨Nat.le_refl _, fun _ _ _ => rfl⟩⟩ h2
      exfalso
      unfold Lets at hL'
      unfold Bars at h1
      split at hL'
      · rename_i hg; rw [hg] at h1; exact h1
      · rename_i d want hg
        rw [hg] at h1
        simp only at h1
        rw [hL'] at h1
        rcases h1 with h1 | h1
        · cases want <;> simp at h1
        · cases h1
  | [], _ :: _, _, _, _, _, _, _, hlen, _, _, _ => by simp at hlen
  | _ :: _, [], _, _, _, _, _, _, hlen, _, _, _ => by simp at hlen

/-- A REGION WHOSE ORDER IS DRAWN, in which slices grow beside what looks elsewhere. -/
theorem draw_x {S : MS} {a : Act} {env : Env} {id : Nat} {ks : List Nat} {L : List AOp} {l : List Grp} (hm : P.follows .mixedOrders = true) (hB : Region.lexB .any ops = true) (hp : pairsX .any ops L = true) (hL : ops.toList.mapM (compOp P n ops) = some L) (hS : SRel S (hl l)) (hF : FRel S n env a) {K : Env → List Grp → Prop} (h : runX P ks (flagsB .any ops L) L env l K)
    {Q : Exit → Act → World → Prop} (hQ : ∀ S' env' l' a', Evo S S' → SRel S' (hl l') → FRel S' n env' a' → K env' l' → Q .normal a' S'.w) : (Code.region id ops true).wpIn (fen rd) mm P Q a S.w := by
  simp only [Region.lexB, Bool.and_eq_true] at hB
  have hlen : ops.toList.length = L.length := mapM_length hL
  have hpair : ∀ i j qi, i < j → L[i]? = some qi → match L[j]? with | some qj => (qi.k.eff = none ∧ (qj.k.eff = none ∨ commB qi.k qj.k = true ∨ (flagsB .any ops L).getD i false = true ∧ qj.k.eff = some 2)) ∨ Region.waitsFor .any ops j i = true | none => True := fun i j qi hij hqi => by
    by_cases hj : j < ops.size
    · have h1 := List.all_eq_true.1 (List.all_eq_true.1 hp j (List.mem_range.2 hj)) i (List.mem_range.2 hij)
      unfold pairX at h1
      rw [hqi] at h1
      cases hqj : L[j]? with
      | none => trivial
      | some qj =>
        rw [hqj] at h1
        simp only [Bool.or_eq_true, Bool.and_eq_true, Option.isNone_iff_eq_none, beq_iff_eq] at h1
        rcases h1 with ⟨h1, h2⟩ | h1
        · refine .inl ⟨h1, ?_⟩
          rcases h2 with (h2 | h2) | h2
          · exact .inl h2
          · exact .inr (.inl h2)
          · exact .inr (.inr h2)
        · exact .inr h1
    · have : L[j]? = none := List.getElem?_eq_none (by rw [← hlen]; simp; omega)
      rw [this]
      trivial
  have := anyX_lex (md := .any) (fl := flagsB .any ops L) (ks := ks) hL hpair ops.toList L 0 (Array.replicate ops.size false) env l (by simp) (by simp) hlen (fun j hj => by omega) (by simpa using hB.2) (by simpa using h)
  have e := Evo.drew S
  exact wpIn_region_any hm (anyX_sound hL ops.size _ env l { S with w := S.w.drew } a (by simpa using this) hS.drew (hF.mono e) fun S' env' l' a' e' hS' hF' hK => hQ S' env' l' a' (e.trans e') hS' hF' hK)
end
end Go.Proofs.Ytdmjhlofphhldaa.Abs
