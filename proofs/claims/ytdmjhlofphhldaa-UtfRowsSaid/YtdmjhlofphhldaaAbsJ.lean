/-
  .. one walk in the order of the text serves every order.
-/
import Derived.Test.YtdmjhlofphhldaaAbsG
set_option linter.unusedSimpArgs false
set_option linter.unusedVariables false
namespace Go.Proofs.Ytdmjhlofphhldaa.Abs
section
variable {P : Program} {n : Nat} {ops : Array Oper} {md : Region.Mode} {rd : Option Nat} {mm : Nat}

/-- What commutes with e where it went from l to l'. -/
def Comm (P : Program) (e : AK) (l l' : List Grp) : Prop := ∀ q : AK, commB q e = true → ∀ ys z, QG P q l ys z → QG P q l' ys z

theorem at_lt {l : List Grp} {g : Nat} (h : ((hl l).at_ g).exact = true) : g < l.length := by
  rcases Nat.lt_or_ge g l.length with hg | hg
  · exact hg
  · rw [hl_at] at h
    have : l.getD g default = default := by simp [List.getD, List.getElem?_eq_none hg]
    rw [this] at h
    cases h

theorem eff_one {k : AK} {e : Nat} (he : k.eff = some e) (hap : k.appOk = true) {l : List Grp} {xs : List AV} {K : AV → AHeap → Prop} (h : stepA P k (hl l) xs K) :
    ∃ x l', stepA P k (hl l) xs (fun y H' => y = x ∧ H' = hl l') ∧ K x (hl l') ∧ Comm P k l l' := by
  have hpush : ∀ G, k.eff = some 0 → Comm P k l (l ++ [G]) := fun G h0 q hq ys z hh => hh.push G
  cases k <;> simp only [AK.eff, Option.some.injEq, reduceCtorEq] at he
  case mkMap =>
    match xs, h with
    | _ :: _, h => exact h.elim
    | [], h =>
      have h' : K (.map l.length 1) ((hl l).push ⟨0, 1, true, []⟩) := h
      rw [hl_push] at h'
      exact ⟨_, _, ⟨rfl, hl_push _ _⟩, h', fun q hq ys u hh => by
        simp only [commB, AK.eff, Bool.and_eq_true] at hq
        exact hh.blind hq.2 (by simp)⟩
  case mapSet =>
    match xs, h with
    | [], h => exact h.elim
    | [x], h => cases x <;> exact h.elim
    | [x, y], h => cases x <;> first | exact h.elim | (cases y <;> exact h.elim)
    | x :: y :: u :: v :: r, h => cases x <;> first | exact h.elim | (cases y <;> exact h.elim)
    | [x, y, u], h =>
      cases x <;> try exact h.elim
      cases y <;> try exact h.elim
      obtain ⟨h1, h2, h3, h4, h5⟩ := h
      obtain ⟨zs, h6, h7⟩ := optK_elim h5
      have hg := at_lt h4
      rw [hl_set _ _ _ hg] at h7
      refine ⟨_, _, ⟨h1, h2, h3, h4, by rw [h6]; exact ⟨rfl, hl_set _ _ _ hg⟩⟩, h7, fun q hq ys u hh => ?_⟩
      simp only [commB, AK.eff, Bool.and_eq_true] at hq
      exact hh.blind hq.2 (by simp)
  case alloc z w =>
    match xs, h with
    | _ :: _, h => exact h.elim
    | [], h =>
      have h' : K (.ptr l.length 1 0 0) ((hl l).push ⟨w, 1, true, [z]⟩) := h
      rw [hl_push] at h'
      exact ⟨_, _, ⟨rfl, hl_push _ _⟩, h', hpush _ rfl⟩
  case box =>
    match xs, h with
    | [], h => exact h.elim
    | _ :: _ :: _, h => exact h.elim
    | [x], h =>
      obtain ⟨h1, h2, h3⟩ := h
      rw [hl_push] at h3
      exact ⟨_, _, ⟨h1, h2, rfl, hl_push _ _⟩, h3, hpush _ rfl⟩
  case mkSlice w b z =>
    match xs, h with
    | [], h => exact h.elim
    | [x], h => cases x <;> exact h.elim
    | x :: y :: u :: r, h => cases x <;> first | exact h.elim | (cases y <;> exact h.elim)
    | [x, y], h =>
      cases x <;> try exact h.elim
      cases y <;> try exact h.elim
      obtain ⟨h1, h2, h3, h4⟩ := h
      rw [hl_push] at h4
      exact ⟨_, _, ⟨h1, h2, h3, rfl, hl_push _ _⟩, h4, hpush _ rfl⟩
  case store s =>
    match xs, h with
    | [], h => exact h.elim
    | [x], h => cases x <;> exact h.elim
    | x :: y :: u :: r, h => cases x <;> exact h.elim
    | [x, y], h =>
      cases x <;> try exact h.elim
      rename_i g v i o
      obtain ⟨h1, h2, h3, h4, h5, h6, h7, h8⟩ := h
      have hg : g < l.length := by
        rcases Nat.lt_or_ge g l.length with hg | hg
        · exact hg
        · exfalso
          rw [hl_at] at h2
          have : l.getD g default = default := by simp [List.getD, List.getElem?_eq_none hg]
          rw [this] at h2
          exact absurd h2 (Nat.not_lt_zero _)
      rw [hl_set _ _ _ hg] at h8
      refine ⟨_, _, ⟨h1, h2, h3, h4, h5, h6, h7, rfl, hl_set _ _ _ hg⟩, h8, fun q hq ys z hh => ?_⟩
      simp only [commB, AK.eff, Bool.and_eq_true, Bool.not_eq_true'] at hq
      exact hh.stored hq.2 hg h1.symm rfl rfl (by simp [hl_at])
  case app w b z =>
    have hbl : ∀ l', l.length ≤ l'.length → Comm P (.app w b z) l l' := fun l' hl q hq ys u hh => by
      simp only [commB, AK.eff, Bool.and_eq_true] at hq
      exact hh.blind hq.2 hl
    match xs, h with
    | [], h => exact h.elim
    | [x], h => exact h.elim
    | x :: y :: u :: r, h => exact h.elim
    | [s, y], h =>
      obtain ⟨h1, h2⟩ := h
      obtain ⟨news, h3, h4⟩ := optK_elim h2
      have mk : ∀ {K' : AV → AHeap → Prop}, appendA w b s news (hl l) K' → stepA P (.app w b z) (hl l) [s, y] K' := fun hh => by
        refine ⟨h1, ?_⟩
        rw [h3]
        exact hh
      suffices hh : ∃ x l', appendA w b s news (hl l) (fun y H' => y = x ∧ H' = hl l') ∧ K x (hl l') ∧ l.length ≤ l'.length by
        obtain ⟨x, l', k1, k2, k3⟩ := hh
        exact ⟨x, l', mk k1, k2, hbl l' k3⟩
      cases s <;> simp only [appendA] at h4 ⊢ <;> try exact h4.elim
      · obtain ⟨a1, a2⟩ := h4
        rw [hl_push] at a2 ⊢
        exact ⟨_, _, ⟨a1, rfl, rfl⟩, a2, by simp⟩
      · obtain ⟨a1, a2⟩ := h4
        rw [hl_push] at a2 ⊢
        exact ⟨_, _, ⟨a1, rfl, rfl⟩, a2, by simp⟩
      · obtain ⟨a1, a2, a3, a4⟩ := h4
        rw [hl_push] at a4 ⊢
        exact ⟨_, _, ⟨a1, a2, a3, rfl, rfl⟩, a4, by simp⟩
      · rename_i g v off len
        obtain ⟨a1, a2, a3, a4, a5⟩ := h4
        have hset : ∀ G : Grp, K (.ref g v off (len + news.length)) ((hl l).set g G) → g < l.length → True := fun _ _ _ => trivial
        cases hc : (!((hl l).at_ g).exact || ((hl l).at_ g).xs.isEmpty)
        · rw [hc] at a5
          simp only at a5
          have hg : g < l.length := by
            rcases Nat.lt_or_ge g l.length with hg | hg
            · exact hg
            · have : (hl l).at_ g = default := by rw [hl_at]; simp [List.getD, List.getElem?_eq_none hg]
              rw [this] at hc
              cases hc
          by_cases hle : off + len + news.length ≤ ((hl l).at_ g).xs.length
          · have := a5.1 hle
            rw [hl_set _ _ _ hg] at this
            exact ⟨_, _, ⟨a1, a2, a3, a4, fun _ => ⟨rfl, hl_set _ _ _ hg⟩, fun hlt => absurd hlt (by omega)⟩, this, by simp⟩
          · have := a5.2 (by omega)
            rw [hl_push] at this
            exact ⟨_, _, ⟨a1, a2, a3, a4, fun hlt => absurd hlt hle, fun _ => ⟨rfl, hl_push _ _⟩⟩, this, by simp⟩
        · rw [hc] at a5
          simp only at a5
          obtain ⟨b1, b2, b3⟩ := a5
          by_cases hg : g < l.length
          · rw [hl_set _ _ _ hg] at b3
            exact ⟨_, _, ⟨a1, a2, a3, a4, b1, b2, rfl, hl_set _ _ _ hg⟩, b3, by simp⟩
          · exfalso
            have : (hl l).at_ g = default := by rw [hl_at]; simp [List.getD, List.getElem?_eq_none (Nat.le_of_not_lt hg)]
            rw [this] at a2
            simp only [AK.appOk, decide_eq_true_eq] at hap
            rw [← a2] at hap
            exact Nat.lt_irrefl 0 hap

/-- One operation goes from env and l to l', and yields x. -/
def StepG (P : Program) (q : AOp) (x : AV) (env : Env) (l l' : List Grp) : Prop :=
  (Lets q env ∧ ((q.k.eff = none ∧ QG P q.k l (q.vals env) x ∧ l' = l) ∨ (q.k.eff ≠ none ∧ stepA P q.k (hl l) (q.vals env) (fun y H' => y = x ∧ H' = hl l') ∧ Comm P q.k l l'))) ∨ (Bars q env ∧ x = .tup [] ∧ l' = l)

theorem stepG_ok {l l' : List Grp} {S : MS} (hS : SRel S (hl l)) {env : Env} {a : Act} (hF : FRel S n env a) {i : Nat} {o : Oper} (ho : ops[i]? = some o) {q : AOp} (h : compOp P n ops o = some q) {x : AV} (hy : StepG P q x env l l')
    {N : Act → World → Prop} {Q : Exit → Act → World → Prop} (hN : ∀ S' a', Evo S S' → SRel S' (hl l') → FRel S' n (env.put q.dst x) a' → N a' S'.w) : wpOpIn (fen rd) mm P ops Q i N a S.w := by
  obtain ⟨hL, hB⟩ := lets_wanted h hF
  unfold wpOpIn
  simp only [ho]
  rcases hy with ⟨h1, ⟨_, h2, rfl⟩ | ⟨_, h2, _⟩⟩ | ⟨h1, rfl, rfl⟩
  · rw [if_pos (hL h1)]
    exact quiet_ok hS hF h h2.qy hN
  · rw [if_pos (hL h1)]
    refine op_ok hS hF h h2 (fun S' H' y a' e hS' hF' hK => ?_) rd mm
    obtain ⟨rfl, rfl⟩ := hK
    exact hN S' a' e hS' hF'
  · rw [if_neg (by rw [hB h1]; simp)]
    obtain ⟨_, _, h3, h4, _⟩ := compOp_spec h
    exact ⟨fun _ _ => trivial, hN S _ (.refl S) hS (by rw [h3]; exact hF.put h4 undef_rel)⟩

def anyG (P : Program) (md : Region.Mode) (ops : Array Oper) (L : List AOp) (Q : Env → List Grp → Prop) : Nat → Array Bool → Env → List Grp → Prop
  | 0, listed, env, l => Region.ready md ops listed = [] ∧ Q env l
  | f + 1, listed, env, l => (Region.ready md ops listed = [] → Q env l) ∧ ∀ i ∈ Region.ready md ops listed, ∃ q x l', L[i]? = some q ∧ StepG P q x env l l' ∧ anyG P md ops L Q f (listed.setIfInBounds i true) (env.put q.dst x) l'

theorem anyG_sound {L : List AOp} (hL : ops.toList.mapM (compOp P n ops) = some L) {Q : Env → List Grp → Prop} {Q' : Exit → Act → World → Prop} : ∀ (fuel : Nat) (listed : Array Bool) (env : Env) (l : List Grp) (S : MS) (a : Act), anyG P md ops L Q fuel listed env l → SRel S (hl l) → FRel S n env a →
    (∀ S' env' l' a', Evo S S' → SRel S' (hl l') → FRel S' n env' a' → Q env' l' → Q' .normal a' S'.w) → wpAnyIn (fen rd) mm P md ops Q' fuel listed a S.w
  | 0, listed, env, l, S, a, h, hS, hF, hQ => ⟨h.1, hQ S env l a (.refl S) hS hF h.2⟩
  | fuel + 1, listed, env, l, S, a, h, hS, hF, hQ => by
    refine ⟨fun h0 => hQ S env l a (.refl S) hS hF (h.1 h0), fun i hi => ?_⟩
    obtain ⟨q, x, l', hq, hy, hrest⟩ := h.2 i hi
    obtain ⟨_, o, ho, _⟩ := mem_ready.1 hi
    obtain ⟨q', hq', hc⟩ := mapM_get hL (i := i) (o := o) (by simpa using ho)
    rw [hq] at hq'
    cases hq'
    exact stepG_ok hS hF ho hc hy fun S' a' e hS' hF' => anyG_sound hL fuel _ _ _ S' a' hrest hS' hF' fun S2 env2 l2 a2 e2 hS2 hF2 hQ2 => hQ S2 env2 l2 a2 (e.trans e2) hS2 hF2 hQ2

theorem stepG_put {o : Oper} {q : AOp} (h : compOp P n ops o = some q) {dst : Option Nat} (hd : ∀ d, dst = some d → d ∉ o.looksAt ops) {env : Env} {x y : AV} {l l' : List Grp} : StepG P q y (env.put dst x) l l' ↔ StepG P q y env l l' := by
  obtain ⟨h1, h2, h3⟩ := vals_put h hd env x
  unfold StepG
  rw [h1, h2, h3]

theorem anyG_first {L : List AOp} (hL : ops.toList.mapM (compOp P n ops) = some L) {Q : Env → List Grp → Prop} {i : Nat} {oi : Oper} {qi : AOp} {x : AV} (hi : ops[i]? = some oi) (hqi : L[i]? = some qi) (hpair : ∀ j, i < j → pairB md ops L i j = true) : ∀ (fuel : Nat) (listed : Array Bool) (env : Env) (l l1 : List Grp),
    (∀ j, j < i → listed.getD j true = true) →
    (∀ j oj, ops[j]? = some oj → j ≠ i → listed.getD j true = false → (∀ e ∈ oj.after, Region.binds md e = true → e.on ≠ i) → oi.apart ops oj = true) →
    i ∈ Region.ready md ops listed → StepG P qi x env l l1 → anyG P md ops L Q fuel (listed.setIfInBounds i true) (env.put qi.dst x) l1 → anyG P md ops L Q (fuel + 1) listed env l := by
  have hci : compOp P n ops oi = some qi := by
    obtain ⟨q, hq, hc⟩ := mapM_get hL (i := i) (o := oi) (by simpa using hi)
    rw [hqi] at hq; cases hq; exact hc
  intro fuel
  induction fuel with
  | zero =>
    intro listed env l l1 _ _ hr hy h
    refine ⟨fun h => (by rw [h] at hr; cases hr), fun j hj => ?_⟩
    by_cases hji : j = i
    · subst hji; exact ⟨qi, x, l1, hqi, hy, h⟩
    · have := ready_mono hj hji
      rw [h.1] at this
      cases this
  | succ fuel ih =>
    intro listed env l l1 hlow hfree hr hy h
    refine ⟨fun h => (by rw [h] at hr; cases hr), fun j hj => ?_⟩
    by_cases hji : j = i
    · subst hji; exact ⟨qi, x, l1, hqi, hy, h⟩
    · obtain ⟨qj, xj, l2, hqj, hyj, hrest⟩ := h.2 j (ready_mono hj hji)
      obtain ⟨hjun, oj, hoj, hall⟩ := mem_ready.1 hj
      have hcj : compOp P n ops oj = some qj := by
        obtain ⟨q, hq, hc⟩ := mapM_get hL (i := j) (o := oj) (by simpa using hoj)
        rw [hqj] at hq; cases hq; exact hc
      have hun := (mem_ready.1 hr).1
      have hnot : ∀ e ∈ oj.after, Region.binds md e = true → e.on ≠ i := fun e he hb heq => by
        have h1 := hall e he hb
        rw [heq, getD_both hun] at h1
        cases h1
      have hij : i < j := by
        rcases Nat.lt_trichotomy i j with h1 | h1 | h1
        · exact h1
        · exact absurd h1.symm hji
        · rw [hlow j h1] at hjun; cases hjun
      obtain ⟨a1, a2, a3⟩ := Oper.apart_spec (hfree j oj hoj hji hjun hnot)
      have di : qi.dst = oi.dst := (compOp_spec hci).2.2.1
      have dj : qj.dst = oj.dst := (compOp_spec hcj).2.2.1
      have hfree' : ∀ k ok, ops[k]? = some ok → k ≠ i → (listed.setIfInBounds j true).getD k true = false →
          (∀ e ∈ ok.after, Region.binds md e = true → e.on ≠ i) → oi.apart ops ok = true := fun k ok hk hki hun hno => by
        refine hfree k ok hk hki ?_ hno
        by_cases hjk : j = k
        · subst hjk; exact hjun
        · rw [getD_set_ne true hjk] at hun; exact hun
      have hlow' : ∀ k, k < i → (listed.setIfInBounds j true).getD k true = true := fun k hk => by
        rw [getD_set_ne true (by omega)]
        exact hlow k hk
      have hp : qi.k.eff = none ∧ (qj.k.eff = none ∨ commB qi.k qj.k = true) := by
        have h1 := hpair j hij
        simp only [pairB, hqi, hqj, Bool.or_eq_true, Bool.and_eq_true, Option.isNone_iff_eq_none] at h1
        rcases h1 with h1 | h1
        · exact h1
        · obtain ⟨oj', hoj', e, he, hb, hon⟩ := Region.waitsFor_spec h1
          have : oj' = oj := Option.some.inj (hoj'.symm.trans hoj)
          subst this
          exact absurd hon (hnot e he hb)
      have hl1 : l1 = l := by
        rcases hy with ⟨_, ⟨_, _, hh⟩ | ⟨hh, _⟩⟩ | ⟨_, _, hh⟩
        · exact hh
        · exact absurd hp.1 hh
        · exact hh
      subst hl1
      have hyj' := (stepG_put hcj (by rw [di]; exact a1)).1 hyj
      have hyi : StepG P qi x env l2 l2 := by
        rcases hyj' with ⟨_, ⟨_, _, rfl⟩ | ⟨hne, _, hcm⟩⟩ | ⟨_, _, rfl⟩
        · exact hy
        · rcases hy with ⟨b1, ⟨b2, b3, _⟩ | ⟨b2, _⟩⟩ | ⟨b1, b2, _⟩
          · exact .inl ⟨b1, .inl ⟨b2, hcm qi.k (hp.2.resolve_left hne) _ _ b3, rfl⟩⟩
          · exact absurd hp.1 b2
          · exact .inr ⟨b1, b2, rfl⟩
        · exact hy
      refine ⟨qj, xj, l2, hqj, hyj', ih (listed.setIfInBounds j true) _ l2 l2 hlow' hfree' (ready_mono hr (Ne.symm hji)) ((stepG_put hci (by rw [dj]; exact a3)).2 hyi) ?_⟩
      rw [Array.setIfInBounds_comm _ _ hji, put_comm env xj x (by rw [di, dj]; intro d hd hh; exact a2 d hh hd)]
      exact hrest

/-- A region whose order is drawn, in the order of the text. -/
def runG (P : Program) : List AOp → Env → List Grp → (Env → List Grp → Prop) → Prop
  | [], env, l, K => K env l
  | o :: r, env, l, K => guardK env o.guard fun w env =>
    if w then (if o.k.eff.isNone then ∃ x, QG P o.k l (o.vals env) x ∧ runG P r (env.put o.dst x) l K else ∃ x l', stepA P o.k (hl l) (o.vals env) (fun y H' => y = x ∧ H' = hl l') ∧ Comm P o.k l l' ∧ runG P r (env.put o.dst x) l' K)
    else runG P r (env.put o.dst (.tup [])) l K

theorem anyG_lex {L : List AOp} (hL : ops.toList.mapM (compOp P n ops) = some L) {Q : Env → List Grp → Prop} (hpair : ∀ i j, i < j → pairB md ops L i j = true) (hap : ∀ q ∈ L, q.k.appOk = true) : ∀ (r : List Oper) (r' : List AOp) (k : Nat) (listed : Array Bool) (env : Env) (l : List Grp), (∀ j, r[j]? = ops[k + j]?) → (∀ j, r'[j]? = L[k + j]?) → r.length = r'.length → (∀ j, j < k → listed.getD j true = true) →
    Region.lexFrom md ops r.length k listed = true → runG P r' env l Q → anyG P md ops L Q r.length listed env l
  | [], [], _, _, _, _, _, _, _, _, hB, h => ⟨by simpa [Region.lexFrom] using hB, h⟩
  | o :: r, q :: r', k, listed, env, l, hr0, hr0', hlen, hlow, hB, h => by
    have h0 : ops[k]? = some o := by simpa using (hr0 0).symm
    have h0' : L[k]? = some q := by simpa using (hr0' 0).symm
    have hk : k < ops.size := (Array.getElem?_eq_some_iff.1 h0).1
    simp only [List.length_cons, Region.lexFrom, Bool.and_eq_true] at hB
    obtain ⟨⟨hr, hf⟩, hB'⟩ := hB
    simp only [runG] at h
    have hr' : k ∈ Region.ready md ops listed := by simpa using hr
    have hlow' : ∀ j, j < k + 1 → (listed.setIfInBounds k true).getD j true = true := fun j hj => by
      by_cases hjk : k = j
      · subst hjk
        rcases Nat.lt_or_ge k listed.size with hs | hs
        · simp [hs]
        · simp [Array.getElem?_eq_none hs]
      · rw [getD_set_ne true hjk]
        exact hlow j (by omega)
    have ih := fun env' l' (hh : runG P r' env' l' Q) => anyG_lex hL hpair hap r r' (k + 1) (listed.setIfInBounds k true) env' l' (fun j => by have := hr0 (j + 1); simpa [Nat.add_assoc, Nat.add_comm 1 j] using this) (fun j => by have := hr0' (j + 1); simpa [Nat.add_assoc, Nat.add_comm 1 j] using this) (by simpa using hlen) hlow' hB' hh
    have first := fun x l1 (hy : StepG P q x env l l1) (hh : runG P r' (env.put q.dst x) l1 Q) => anyG_first hL h0 h0' (fun j hj => hpair k j hj) r.length listed env l l1 hlow (Region.free_spec h0 hf) hr' hy (ih _ _ hh)
    rcases guardK_yields h with ⟨h1, h2⟩ | ⟨h1, h2⟩
    · simp only [if_true] at h2
      cases he : q.k.eff with
      | none =>
        simp only [he, Option.isNone_none, if_true] at h2
        obtain ⟨x, hx, hK⟩ := h2
        exact first x l (.inl ⟨h1, .inl ⟨he, hx, rfl⟩⟩) hK
      | some e =>
        simp only [he, Option.isNone_some, Bool.false_eq_true, if_false] at h2
        obtain ⟨x, l', b1, b3, b2⟩ := h2
        exact first x l' (.inl ⟨h1, .inr ⟨by simp [he], b1, b3⟩⟩) b2
    · simp only [Bool.false_eq_true, if_false] at h2
      exact first (.tup []) l (.inr ⟨h1, rfl, rfl⟩) h2
  | [], _ :: _, _, _, _, _, _, _, hlen, _, _, _ => by simp at hlen
  | _ :: _, [], _, _, _, _, _, _, hlen, _, _, _ => by simp at hlen

/-- A REGION WHOSE ORDER IS DRAWN, in which memory is made and written. -/
theorem draw_any {S : MS} {a : Act} {env : Env} {id : Nat} {L : List AOp} {l : List Grp} (hm : P.follows .mixedOrders = true) (hB : Region.lexB .any ops = true) (hp : pairsB .any ops L = true) (hL : ops.toList.mapM (compOp P n ops) = some L) (hS : SRel S (hl l)) (hF : FRel S n env a) {K : Env → List Grp → Prop} (h : runG P L env l K)
    {Q : Exit → Act → World → Prop} (hQ : ∀ S' env' l' a', Evo S S' → SRel S' (hl l') → FRel S' n env' a' → K env' l' → Q .normal a' S'.w) : (Code.region id ops true).wpIn (fen rd) mm P Q a S.w := by
  simp only [Region.lexB, Bool.and_eq_true] at hB
  have hlen : ops.toList.length = L.length := mapM_length hL
  simp only [pairsB, Bool.and_eq_true] at hp
  have hap : ∀ q ∈ L, q.k.appOk = true := fun q hq => List.all_eq_true.1 hp.1 q hq
  have hpair : ∀ i j, i < j → pairB .any ops L i j = true := fun i j hij => by
    by_cases hj : j < ops.size
    · exact List.all_eq_true.1 (List.all_eq_true.1 hp.2 j (List.mem_range.2 hj)) i (List.mem_range.2 hij)
    · have : L[j]? = none := List.getElem?_eq_none (by rw [← hlen]; simp; omega)
      unfold pairB
      rw [this]
      split <;> first | rfl | (rename_i hh; cases hh) | (rename_i hh _; cases hh)
  have := anyG_lex (md := .any) hL hpair hap ops.toList L 0 (Array.replicate ops.size false) env l (by simp) (by simp) hlen (fun j hj => by omega) (by simpa using hB.2) h
  have e := Evo.drew S
  exact wpIn_region_any hm (anyG_sound hL ops.size _ env l { S with w := S.w.drew } a (by simpa using this) hS.drew (hF.mono e) fun S' env' l' a' e' hS' hF' hK => hQ S' env' l' a' (e.trans e') hS' hF' hK)
end
end Go.Proofs.Ytdmjhlofphhldaa.Abs
