/-
  Code, piece by piece: 'T c env H Q': from data env and groups H the code goes through, and Q holds of where it goes on, of the data and of the groups.
-/
import Derived.Test.YtdmjhlofphhldaaAbs12
import Derived.Deep.LoopGhost
import Derived.Scope
set_option linter.unusedSimpArgs false
set_option linter.unusedVariables false
namespace Go.Proofs.Ytdmjhlofphhldaa.Abs

/-- How a piece of code is left. -/
inductive Ex where
  | normal
  | exit (id : Nat)
  | ret

def Ex.up : Ex → Exit
  | .normal => .normal
  | .exit id => .exit id
  | .ret => .ret

/-- What holds behind a piece of code. -/
def After (S : MS) (n : Nat) (Q : Ex → Env → AHeap → Prop) (e : Exit) (a : Act) (w : World) : Prop :=
  ∃ S' env H' x, S'.w = w ∧ Evo S S' ∧ SRel S' H' ∧ FRel S' n env a ∧ e = Ex.up x ∧ Q x env H'

def T (P : Program) (n : Nat) (c : AC) (env : Env) (H : AHeap) (Q : Ex → Env → AHeap → Prop) : Prop :=
  ∀ code, compC P n code = some c → ∀ S a, SRel S H → FRel S n env a → code.wp P (After S n Q) a S.w

section
variable {P : Program} {n : Nat} {env : Env} {H : AHeap} {Q : Ex → Env → AHeap → Prop}

theorem After.trans {S S' : MS} (e : Evo S S') {Q : Ex → Env → AHeap → Prop} {x : Exit} {a : Act} {w : World} (h : After S' n Q x a w) : After S n Q x a w :=
  let ⟨S2, env, H', y, h1, h2, h3, h4, h5, h6⟩ := h
  ⟨S2, env, H', y, h1, e.trans h2, h3, h4, h5, h6⟩

theorem After.mono {S : MS} {Q Q' : Ex → Env → AHeap → Prop} (hq : ∀ x env H, Q x env H → Q' x env H) {x : Exit} {a : Act} {w : World} (h : After S n Q x a w) : After S n Q' x a w :=
  let ⟨S2, env, H', y, h1, h2, h3, h4, h5, h6⟩ := h
  ⟨S2, env, H', y, h1, h2, h3, h4, h5, hq _ _ _ h6⟩

theorem T.mono {c : AC} {Q' : Ex → Env → AHeap → Prop} (h : T P n c env H Q) (hq : ∀ x env H, Q x env H → Q' x env H) : T P n c env H Q' :=
  fun code hc S a hS hF => wp_mono (h code hc S a hS hF) fun _ _ _ hh => hh.mono hq

/-- The scope rule: a scope is passed through. -/
theorem wp_scope' {c : Code} {S : MS} {a : Act} {w : World} (h : c.wp P (After S n Q) a w) : (Code.scope c).wp P (After S n Q) a w := by
  refine wp_scope_straight (wp_mono h fun e a w hh => ?_)
  obtain ⟨S2, env, H', y, h1, h2, h3, h4, h5, h6⟩ := hh
  subst h5
  cases y <;> exact ⟨S2, env, H', _, h1, h2, h3, h4, rfl, h6⟩

/-- A code that is read as c, behind its scopes. -/
theorem compC_ind {c : AC} {S : MS} {a : Act} {w : World} (h : ∀ code, compC P n code = some c → (∀ d, code ≠ .scope d) → code.wp P (After S n Q) a w) : ∀ code, compC P n code = some c → code.wp P (After S n Q) a w
  | .scope d, hc => wp_scope' (compC_ind h d (by simpa [compC] using hc))
  | .skip, hc => h _ hc (by simp)
  | .region .., hc => h _ hc (by simp)
  | .seq .., hc => h _ hc (by simp)
  | .cond .., hc => h _ hc (by simp)
  | .block .., hc => h _ hc (by simp)
  | .loop _, hc => h _ hc (by simp)
  | .rangeFunc .., hc => h _ hc (by simp)
  | .exit _, hc => h _ hc (by simp)
  | .label _, hc => h _ hc (by simp)
  | .goto _, hc => h _ hc (by simp)
  | .ret, hc => h _ hc (by simp)
  | .refuse _, hc => h _ hc (by simp)

theorem T_of {c : AC} (h : ∀ code, compC P n code = some c → (∀ d, code ≠ .scope d) → ∀ S a, SRel S H → FRel S n env a → code.wp P (After S n Q) a S.w) : T P n c env H Q :=
  fun code hc S a hS hF => compC_ind (fun code hc hs => h code hc hs S a hS hF) code hc

theorem T_skip (h : Q .normal env H) : T P n .skip env H Q := T_of fun code hc hs S a hS hF => by
  have hA : After S n Q .normal a S.w := ⟨S, env, H, .normal, rfl, .refl S, hS, hF, rfl, h⟩
  cases code <;> simp only [compC, reduceCtorEq, Option.some.injEq] at hc
  case skip => exact wp_skip hA
  case label => exact wp_label hA
  case region => split at hc <;> (try split at hc) <;> (try split at hc) <;> cases hc
  case seq => split at hc <;> cases hc
  case cond => split at hc <;> cases hc
  case block => obtain ⟨_, _, h⟩ := Option.map_eq_some_iff.1 hc; cases h
  case loop => obtain ⟨_, _, h⟩ := Option.map_eq_some_iff.1 hc; cases h
  case scope d => exact absurd rfl (hs d)

theorem T_reg {ops : List AOp} (h : runK P ops env H fun env' H' => Q .normal env' H') : T P n (.reg ops) env H Q := T_of fun code hc hs S a hS hF => by
  cases code <;> simp only [compC, reduceCtorEq, Option.some.injEq] at hc
  case region id l draw =>
    split at hc
    · rename_i r hr
      split at hc
      · split at hc <;> cases hc
      · rename_i hd
        cases hc
        have hd' : draw = false := by simpa using hd
        subst hd'
        refine wp_region ?_
        have := run_sound l.toList ops 0 (by simp) hr hS hF h (Q := After S n Q) fun S' H' env' a' e hS' hF' hK => ⟨S', env', H', .normal, rfl, e, hS', hF', rfl, hK⟩
        rw [List.range_eq_range']
        simpa using this
    · cases hc
  case seq => split at hc <;> cases hc
  case cond => split at hc <;> cases hc
  case block => obtain ⟨_, _, h⟩ := Option.map_eq_some_iff.1 hc; cases h
  case loop => obtain ⟨_, _, h⟩ := Option.map_eq_some_iff.1 hc; cases h
  case scope d => exact absurd rfl (hs d)

theorem T_dreg {ops : List AOp} (h : runQ P H ops env fun env' => Q .normal env' H) : T P n (.dreg ops) env H Q := T_of fun code hc hs S a hS hF => by
  cases code <;> simp only [compC, reduceCtorEq, Option.some.injEq] at hc
  case region id l draw =>
    split at hc
    · rename_i r hr
      split at hc
      · rename_i hd
        split at hc
        · rename_i hB
          cases hc
          subst hd
          simp only [Bool.and_eq_true] at hB
          exact draw_sound hB.1 hB.2 hr hS hF h fun S' env' a' e hS' hF' hK => ⟨S', env', H, .normal, rfl, e, hS', hF', rfl, hK⟩
        · cases hc
      · cases hc
    · cases hc
  case seq => split at hc <;> cases hc
  case cond => split at hc <;> cases hc
  case block => obtain ⟨_, _, h⟩ := Option.map_eq_some_iff.1 hc; cases h
  case loop => obtain ⟨_, _, h⟩ := Option.map_eq_some_iff.1 hc; cases h
  case scope d => exact absurd rfl (hs d)

/-- Where c goes on, the rest does. -/
def Ex.then (K : Env → AHeap → Prop) (Q : Ex → Env → AHeap → Prop) : Ex → Env → AHeap → Prop
  | .normal, env, H => K env H
  | x, env, H => Q x env H

theorem T_seq {x y : AC} (h : T P n x env H (Ex.then (fun env' H' => T P n y env' H' Q) Q)) : T P n (.seq x y) env H Q := T_of fun code hc hs S a hS hF => by
  cases code <;> simp only [compC, reduceCtorEq, Option.some.injEq] at hc
  case seq c d =>
    split at hc
    · rename_i x' y' hx hy
      cases hc
      refine wp_seq (wp_mono (h c hx S a hS hF) fun e a' w' hh => ?_)
      obtain ⟨S2, env2, H2, z, rfl, e2, hS2, hF2, rfl, hq⟩ := hh
      cases z with
      | normal => exact wp_mono (hq d hy S2 a' hS2 hF2) fun _ _ _ hh => hh.trans e2
      | exit id => exact ⟨S2, env2, H2, .exit id, rfl, e2, hS2, hF2, rfl, hq⟩
      | ret => exact ⟨S2, env2, H2, .ret, rfl, e2, hS2, hF2, rfl, hq⟩
    · cases hc
  case region => split at hc <;> (try split at hc) <;> (try split at hc) <;> cases hc
  case cond => split at hc <;> cases hc
  case block => obtain ⟨_, _, h⟩ := Option.map_eq_some_iff.1 hc; cases h
  case loop => obtain ⟨_, _, h⟩ := Option.map_eq_some_iff.1 hc; cases h
  case scope d => exact absurd rfl (hs d)

theorem T_cond {c : AArg} {x y : AC} {b : Bool} (hc : c.eval env = .bool b) (ht : b = true → T P n x env H Q) (hf : b = false → T P n y env H Q) : T P n (.cond c x y) env H Q := T_of fun code hcc hs S a hS hF => by
  cases code <;> simp only [compC, reduceCtorEq, Option.some.injEq] at hcc
  case cond z p q =>
    split at hcc
    · rename_i z' p' q' hz hp hq
      cases hcc
      have hv := arg_rel hF hz
      rw [hc] at hv
      exact wp_cond_split (t := b) hv (fun hb => ht hb p hp S a hS hF) (fun hb => hf hb q hq S a hS hF)
    · cases hcc
  case region => split at hcc <;> (try split at hcc) <;> (try split at hcc) <;> cases hcc
  case seq => split at hcc <;> cases hcc
  case block => obtain ⟨_, _, h⟩ := Option.map_eq_some_iff.1 hcc; cases h
  case loop => obtain ⟨_, _, h⟩ := Option.map_eq_some_iff.1 hcc; cases h
  case scope d => exact absurd rfl (hs d)

/-- A block is left by its own exit. -/
def Ex.inBlock (id : Nat) (Q : Ex → Env → AHeap → Prop) : Ex → Env → AHeap → Prop
  | .exit k, env, H => if k = id then Q .normal env H else Q (.exit k) env H
  | x, env, H => Q x env H

theorem T_block {id : Nat} {c : AC} (h : T P n c env H (Ex.inBlock id Q)) : T P n (.block id c) env H Q := T_of fun code hc hs S a hS hF => by
  cases code <;> simp only [compC, reduceCtorEq, Option.some.injEq] at hc
  case block k d =>
    obtain ⟨x, hx, hh⟩ := Option.map_eq_some_iff.1 hc
    cases hh
    refine wp_block (wp_mono (h d hx S a hS hF) fun e a' w' hh => ?_)
    obtain ⟨S2, env2, H2, z, h1, e2, hS2, hF2, rfl, hq⟩ := hh
    cases z with
    | normal => exact ⟨S2, env2, H2, .normal, h1, e2, hS2, hF2, rfl, hq⟩
    | exit j =>
      simp only [Ex.up, Exit.inBlock]
      simp only [Ex.inBlock] at hq
      split
      · rename_i hj; rw [if_pos hj] at hq; exact ⟨S2, env2, H2, .normal, h1, e2, hS2, hF2, rfl, hq⟩
      · rename_i hj; rw [if_neg hj] at hq; exact ⟨S2, env2, H2, .exit j, h1, e2, hS2, hF2, rfl, hq⟩
    | ret => exact ⟨S2, env2, H2, .ret, h1, e2, hS2, hF2, rfl, hq⟩
  case region => split at hc <;> (try split at hc) <;> (try split at hc) <;> cases hc
  case seq => split at hc <;> cases hc
  case cond => split at hc <;> cases hc
  case loop => obtain ⟨_, _, h⟩ := Option.map_eq_some_iff.1 hc; cases h
  case scope d => exact absurd rfl (hs d)

theorem T_exit {id : Nat} (h : Q (.exit id) env H) : T P n (.exit id) env H Q := T_of fun code hc hs S a hS hF => by
  cases code <;> simp only [compC, reduceCtorEq, Option.some.injEq] at hc
  case exit k => cases hc; exact wp_exit ⟨S, env, H, .exit id, rfl, .refl S, hS, hF, rfl, h⟩
  case region => split at hc <;> (try split at hc) <;> (try split at hc) <;> cases hc
  case seq => split at hc <;> cases hc
  case cond => split at hc <;> cases hc
  case block => obtain ⟨_, _, h⟩ := Option.map_eq_some_iff.1 hc; cases h
  case loop => obtain ⟨_, _, h⟩ := Option.map_eq_some_iff.1 hc; cases h
  case scope d => exact absurd rfl (hs d)

theorem T_ret (h : Q .ret env H) : T P n .ret env H Q := T_of fun code hc hs S a hS hF => by
  cases code <;> simp only [compC, reduceCtorEq, Option.some.injEq] at hc
  case ret => exact wp_ret ⟨S, env, H, .ret, rfl, .refl S, hS, hF, rfl, h⟩
  case region => split at hc <;> (try split at hc) <;> (try split at hc) <;> cases hc
  case seq => split at hc <;> cases hc
  case cond => split at hc <;> cases hc
  case block => obtain ⟨_, _, h⟩ := Option.map_eq_some_iff.1 hc; cases h
  case loop => obtain ⟨_, _, h⟩ := Option.map_eq_some_iff.1 hc; cases h
  case scope d => exact absurd rfl (hs d)

/-- A LOOP: a state s, of which the slots and the groups hang; each round hands on a state of a smaller measure. -/
theorem T_loop {σ : Type} (Inv : σ → Env → AHeap → Prop) (μ : σ → Nat) {c : AC} (s0 : σ) (h0 : Inv s0 env H)
    (round : ∀ s env H, Inv s env H → T P n c env H (Ex.then (fun env' H' => ∃ s', Inv s' env' H' ∧ μ s' < μ s) Q)) : T P n (.loop c) env H Q := T_of fun code hc hs S a hS hF => by
  cases code <;> simp only [compC, reduceCtorEq, Option.some.injEq] at hc
  case loop d =>
    obtain ⟨x, hx, hh⟩ := Option.map_eq_some_iff.1 hc
    cases hh
    refine wp_loop_ghost (fun k a w => ∃ S' s env H, S'.w = w ∧ Evo S S' ∧ SRel S' H ∧ FRel S' n env a ∧ Inv s env H ∧ μ s = k) (μ s0) ⟨S, s0, env, H, rfl, .refl S, hS, hF, h0, rfl⟩ ?_
    rintro k a w ⟨S1, s, env1, H1, rfl, e1, hS1, hF1, hI, rfl⟩
    refine wp_mono (round s env1 H1 hI d hx S1 a hS1 hF1) fun e a' w' hh => ?_
    obtain ⟨S2, env2, H2, z, rfl, e2, hS2, hF2, rfl, hq⟩ := hh
    cases z with
    | normal =>
      obtain ⟨s', h1, h2⟩ := hq
      exact ⟨μ s', h2, S2, s', env2, H2, rfl, e1.trans e2, hS2, hF2, h1, rfl⟩
    | exit id => exact ⟨S2, env2, H2, .exit id, rfl, e1.trans e2, hS2, hF2, rfl, hq⟩
    | ret => exact ⟨S2, env2, H2, .ret, rfl, e1.trans e2, hS2, hF2, rfl, hq⟩
  case region => split at hc <;> (try split at hc) <;> (try split at hc) <;> cases hc
  case seq => split at hc <;> cases hc
  case cond => split at hc <;> cases hc
  case block => obtain ⟨_, _, h⟩ := Option.map_eq_some_iff.1 hc; cases h
  case scope d => exact absurd rfl (hs d)

/-! ### Functions -/
def resK (P : Program) : List ARes → Env → AHeap → (List AV → Prop) → Prop
  | [], _, _, K => K []
  | .slot t :: l, env, H, K => resK P l env H fun xs => K (env t :: xs)
  | .cell t a s :: l, env, H, K => stepA P (.load a s) H [env t] fun x _ => resK P l env H fun xs => K (x :: xs)

def resV : List AV → AV
  | [x] => x
  | xs => .tup xs

/-- What holds where a function returns. -/
def Ret (P : Program) (res : List ARes) (K : AV → AHeap → Prop) (x : Ex) (env : Env) (H : AHeap) : Prop :=
  (match x with | .exit _ => False | _ => True) ∧ resK P res env H fun xs => K (resV xs) H

def entry (xs : List AV) : Env := fun i => xs.getD i .any

theorem compRes_slot {r : ResultVar} {t : Nat} (h : compRes P n r = some (.slot t)) : r = .tmp t ∧ t < n := by
  cases r <;> simp only [compRes] at h
  · split at h
    · rename_i hlt; cases h; exact ⟨rfl, hlt⟩
    · cases h
  · split at h
    · obtain ⟨_, _, h⟩ := Option.map_eq_some_iff.1 h; cases h
    · cases h

theorem compRes_cell {r : ResultVar} {t : Nat} {a : Bool} {s : Nat} (h : compRes P n r = some (.cell t a s)) : ∃ ty, r = .cell t ty ∧ t < n ∧ aggSize P ty = some (a, s) := by
  cases r <;> simp only [compRes] at h
  · split at h <;> cases h
  · split at h
    · rename_i hlt
      obtain ⟨⟨a', s'⟩, h1, h2⟩ := Option.map_eq_some_iff.1 h
      cases h2
      exact ⟨_, rfl, hlt, h1⟩
    · cases h

def resSem (tmps : Array Value) : ResultVar → Sem Value
  | .tmp t => pure (tmps.getD t undef)
  | .cell ad t => do loadVar t (← asAddr (tmps.getD ad undef))

theorem results_ok {S : MS} {a : Act} (hS : SRel S H) (hF : FRel S n env a) : ∀ {rs : List ResultVar} {l : List ARes} {K : List AV → Prop}, rs.mapM (compRes P n) = some l → resK P l env H K →
    ∃ vs xs, (rs.mapM (resSem a.tmps)).run P S.w = .ok vs S.w ∧ VsRel S xs vs ∧ K xs
  | [], l, K, hm, h => by
    simp at hm
    subst hm
    exact ⟨[], [], rfl, rfl, h⟩
  | r :: rs, l, K, hm, h => by
    rw [List.mapM_cons] at hm
    simp only [Option.bind_eq_bind, Option.bind_eq_some_iff, Option.pure_def, Option.some.injEq] at hm
    obtain ⟨q, hq, l', hl', rfl⟩ := hm
    cases q with
    | slot t =>
      obtain ⟨rfl, ht⟩ := compRes_slot hq
      obtain ⟨vs, xs, h1, h2, h3⟩ := results_ok hS hF hl' h
      refine ⟨_ :: vs, env t :: xs, ?_, ⟨_, vs, rfl, hF.val t ht, h2⟩, h3⟩
      have h0 : (resSem a.tmps (.tmp t)).run P S.w = .ok (a.tmps.getD t undef) S.w := rfl
      rw [List.mapM_cons]
      simp only [Sem.run_bind, Sem.run_pure, Result.andThen_ok, h0, h1]
    | cell t ag s =>
      obtain ⟨ty, rfl, ht, hs⟩ := compRes_cell hq
      have hv := hF.val t ht
      obtain ⟨ad, u, z, hvv, hrun, hz, hK⟩ := load_raw hS ty hs hv h
      obtain ⟨vs, xs, h1, h2, h3⟩ := results_ok hS hF hl' hK
      refine ⟨u :: vs, z :: xs, ?_, ⟨u, vs, rfl, hz, h2⟩, h3⟩
      have h0 : (resSem a.tmps (.cell t ty)).run P S.w = .ok u S.w := by simp only [resSem, hvv, asAddr, Sem.run_bind, Sem.run_pure, Result.andThen_ok, hrun]
      rw [List.mapM_cons]
      simp only [Sem.run_bind, Sem.run_pure, Result.andThen_ok, h0, h1]

theorem resV_rel {S : MS} {xs : List AV} {vs : List Value} (h : VsRel S xs vs) : VRel S (resV xs) (if h : vs.toArray.size = 1 then vs.toArray[0] else .tuple vs.toArray) := by
  match xs, vs, h with
  | [], [], _ => exact ⟨[], rfl, rfl⟩
  | [x], [v], h => exact h.inv1
  | x :: y :: xs, u :: v :: vs, h =>
    have hne : ¬ (u :: v :: vs).toArray.size = 1 := by simp
    rw [dif_neg hne]
    exact ⟨_, rfl, h⟩
  | [], _ :: _, h => have := h.length; simp at this
  | [_], [], h => have := h.length; simp at this
  | [_], _ :: _ :: _, h => have := h.length; simp at this
  | _ :: _ :: _, [], h => have := h.length; simp at this
  | _ :: _ :: _, [_], h => have := h.length; simp at this

theorem compFn_spec {f np : Nat} {fn : AFn} (h : compFn P f np = some fn) : ∃ F c, P.funcs[f]? = some F ∧ F.body = some c ∧ F.ntmps = fn.n ∧ compC P fn.n c = some fn.body ∧ F.results.toList.mapM (compRes P fn.n) = some fn.res ∧ np ≤ fn.n ∧ F.name ≠ "runtime.NumGoroutine" := by
  unfold compFn at h
  split at h
  · rename_i F hF
    split at h
    · rename_i c hc
      split at h
      · rename_i b r hb hr
        split at h
        · rename_i hcond
          cases h
          simp only [Bool.and_eq_true, decide_eq_true_eq, bne_iff_ne] at hcond
          exact ⟨F, c, hF, hc, rfl, hb, hr, hcond.1, hcond.2⟩
        · cases h
      · cases h
    · cases h
  · cases h

theorem enters_of {f np : Nat} {fn : AFn} (h : compFn P f np = some fn) : Enters P f := by
  obtain ⟨F, c, hF, hc, _, _, _, _, hn⟩ := compFn_spec h
  intro cargs w
  have h1 : (F.name == "runtime.NumGoroutine") = false := by simpa using hn
  simp [callFunc, Sem.run_bind, run_program, hF, hn, hc]

/-- WHAT A FUNCTION DOES, FROM WHAT ITS CODE DOES. -/
theorem acalls {f : Nat} {xs : List AV} {fn : AFn} (hf : compFn P f xs.length = some fn) {K : AV → AHeap → Prop} (h : T P fn.n fn.body (entry xs) H (Ret P fn.res K)) : ACalls P f xs H K := by
  refine ⟨enters_of hf, fun S cargs hS hx => ?_⟩
  obtain ⟨F, c, hF, hb, hn, hc, hr, hnp, _⟩ := compFn_spec hf
  have hlen := hx.length
  refine calls_of_wp hF hb ?_
  have hfr : FRel S fn.n (entry xs) { tmps := cargs.toArray ++ Array.replicate (F.ntmps - cargs.toArray.size) undef, defers := [] } := by
    refine ⟨by simp; omega, rfl, fun i hi => ?_⟩
    by_cases hlt : i < xs.length
    · obtain ⟨v, hv, hr⟩ := hx.get (List.getElem?_eq_getElem hlt)
      have e1 : entry xs i = xs[i] := by simp [entry, List.getD, List.getElem?_eq_getElem hlt]
      have e2 : (cargs.toArray ++ Array.replicate (F.ntmps - cargs.toArray.size) undef).getD i undef = v := by
        rw [Array.getD_eq_getD_getElem?, Array.getElem?_append_left (by simp; omega)]
        simp [hv]
      rw [e1, e2]
      exact hr
    · have e1 : entry xs i = .any := by simp [entry, List.getD, List.getElem?_eq_none (Nat.le_of_not_lt hlt)]
      rw [e1]
      trivial
  refine wp_mono (h c hc S _ hS hfr) fun e a w' hh => ?_
  obtain ⟨S2, env2, H2, z, rfl, e2, hS2, hF2, rfl, hq, hres⟩ := hh
  have fin : bodyPost P F (fun e w' => ∃ v S' x H', e = .returned v ∧ S'.w = w' ∧ Evo S S' ∧ SRel S' H' ∧ VRel S' x v ∧ K x H') .ret a S2.w := by
    obtain ⟨vs, ys, h1, h2, h3⟩ := results_ok hS2 hF2 hr hres
    refine ⟨hF2.defers, _, ?_, _, S2, _, H2, rfl, rfl, e2, hS2, resV_rel h2, h3⟩
    have e : results F a.tmps = (do let vs ← F.results.mapM (resSem a.tmps); pure (if h : vs.size = 1 then vs[0] else .tuple vs)) := by
      unfold results
      congr
    rw [e, Array.mapM_eq_mapM_toList]
    simp only [Sem.run_bind, Sem.run_map, h1, Result.andThen_ok, Sem.run_pure]
  cases z with
  | normal => exact fin
  | exit id => exact hq.elim
  | ret => exact fin

end
end Go.Proofs.Ytdmjhlofphhldaa.Abs
