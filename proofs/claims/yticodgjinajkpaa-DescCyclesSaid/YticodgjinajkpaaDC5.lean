/-
  Functions that hand on rows: their code, carried out between the rounds.
  Contracts of layers 2, 3: sorts; parts.
  Contracts of layer 4: terms.
  Contracts of layer 4: values; terms put together and bound.
  Contracts of layer 4: terms put together and bound.
  Contracts of layer 4: the document's terms put together, and bound; terms alike.
  Contracts of layer 4: terms bound; terms alike.
  Plain laws of layer 4: what terms put together, and bound, tell.
  What comes in, as the program's data.
  Contracts of layer 4's statements: the document's examples; rightness, values.
  Contracts of layer 4's statements: terms put together, and bound.
  A loop of few rounds, walked round by round.
  Families of groups: what is known, weakened step by step; loops over it.
  Epsilon rules: states whose ways come to an end, taken one by one.
  Ways of epsilon rules that are longer than there are states go round.
-/
import Derived.LoopNIn
import Derived.Test.YticodgjinajkpaaDC4
import Derived.Test.YticodgjinajkpaaDC3
import Derived.Test.YticodgjinajkpaaDC2
set_option linter.unusedSimpArgs false
set_option linter.unusedVariables false
namespace Go.Proofs.Yticodgjinajkpaa.Abs
section
variable {P : Program} {n b : Nat} {S : MS} {H : AHeap}
theorem put_defers (a : Act) (d : Option Nat) (v : Value) : (a.put d v).defers = a.defers := by cases d <;> rfl
theorem op_okI (hS : SRel S H) {env : Env} {a : Act} (hF : FRel S n env a) {o : Oper} {q : AOp} {ops : Array Oper} (h : compOp P n ops o = some q) {K : AV → AHeap → Prop} (hst : stepA P q.k H (q.vals env) K)
    {N : Act → World → Prop} {Q : Exit → Act → World → Prop} (hN : ∀ S' H' x a', Evo S S' → SRel S' H' → FRel S' n (env.put q.dst x) a' → a'.defers = a.defers → K x H' → N a' S'.w) (r : Option Nat) (m : Nat) : o.wpIn (fen r) m P a S.w N Q := by
  obtain ⟨h1, h2, h3, h4, _⟩ := compOp_spec h
  have hargs := args_rel hF h2
  have hsem : o.semAt (fen r).round a.eval = execOp a.eval o := Oper.semAt_eq _ _ _ fun c hc => by rw [hc] at h1; cases h1
  rcases step_sound hS o h1 (ρ := a.eval) hargs hst with ⟨v, S', x, H', hr, e, hS', hv, hK⟩ | ⟨f, cargs, hr, hc⟩
  · have hN' := fun v' (hv' : VRel S' x v') => hN S' H' x (a.put o.dst v') e hS' (by rw [h3]; exact (hF.mono e).put h4 hv') (put_defers _ _ _) hK
    refine ⟨fun _ _ => trivial, ?_⟩
    rw [hsem]
    rcases hr with hr | ⟨hr, rfl⟩ <;> rw [hr]
    · exact hN' v hv
    · exact hN' undef hv
  · refine ⟨fun _ _ => trivial, ?_⟩
    rw [hsem, hr, Oper.uponIn_enter]
    refine ⟨fun h => (by cases h), calls_fen (hc.mono fun e w' hh => ?_)⟩
    obtain ⟨v, S', x, H', rfl, rfl, ev, hS', hv, hK⟩ := hh
    exact hN S' H' x (a.put o.dst v) ev hS' (by rw [h3]; exact (hF.mono ev).put h4 hv) (put_defers _ _ _) hK
theorem run_soundI {ops : Array Oper} {Q : Exit → Act → World → Prop} {rd : Option Nat} {m : Nat} (tl : List Nat) : ∀ (l : List Oper) (l' : List AOp) (k : Nat), (∀ j, j < l.length → l[j]? = ops[k + j]?) → l.mapM (compOp P n ops) = some l' → ∀ {S : MS} {H : AHeap} {env : Env} {a : Act} {K : Env → AHeap → Prop},
    SRel S H → FRel S n env a → runK P l' env H K → (∀ S' H' env' a', Evo S S' → SRel S' H' → FRel S' n env' a' → a'.defers = a.defers → K env' H' → wpOpsIn (fen rd) m P ops Q tl a' S'.w) → wpOpsIn (fen rd) m P ops Q (List.range' k l.length ++ tl) a S.w
  | [], l', k, _, hm, S, H, env, a, K, hS, hF, hr, hQ => by
    simp at hm
    subst hm
    exact hQ S H env a (.refl S) hS hF rfl hr
  | o :: l, l', k, hl, hm, S, H, env, a, K, hS, hF, hr, hQ => by
    rw [List.mapM_cons] at hm
    simp only [Option.bind_eq_bind, Option.bind_eq_some_iff, Option.pure_def, Option.some.injEq] at hm
    obtain ⟨q, hq, r, hrr, rfl⟩ := hm
    have h0 : ops[k]? = some o := by simpa using (hl 0 (by simp)).symm
    have hl' : ∀ j, j < l.length → l[j]? = ops[k + 1 + j]? := fun j hj => by have := hl (j + 1) (by simp; omega); simpa [Nat.add_assoc, Nat.add_comm 1 j] using this
    have hg := guardK_spec hq hF hr
    rw [show List.range' k (o :: l).length ++ tl = k :: (List.range' (k + 1) l.length ++ tl) from rfl]
    simp only [wpOpsIn, h0]
    cases hw : Region.wanted o (yielded ops a.tmps)
    · rw [hw] at hg
      simp only [Bool.false_eq_true, if_false] at hg ⊢
      obtain ⟨_, _, h3, h4, _⟩ := compOp_spec hq
      exact ⟨fun _ _ => trivial, run_soundI tl l r (k + 1) hl' hrr hS (by rw [h3]; exact hF.put h4 undef_rel) hg (fun S' H' env' a' e hS' hF' hd => hQ S' H' env' a' e hS' hF' (hd.trans (put_defers _ _ _)))⟩
    · rw [hw] at hg
      simp only [if_true] at hg ⊢
      refine op_okI hS hF hq hg (fun S' H' x a' e hS' hF' hd hK => ?_) rd m
      exact run_soundI tl l r (k + 1) hl' hrr hS' hF' hK (fun S2 H2 env2 a2 e2 hS2 hF2 hd2 hK2 => hQ S2 H2 env2 a2 (e.trans e2) hS2 hF2 (hd2.trans hd) hK2)
end
structure Itr where
  P : Program
  l : Nat
  m : Nat
  rows : List (List AV)
  S0 : MS
  J : Nat → (Nat → Prop) → World → Prop
  Jx : Nat → (Nat → Prop) → World → Prop
  cJ : Clo J
  cx : Clo Jx
  fact : ∀ k O W, J k O W ∨ Jx k O W → (∀ b, S0.im b → ¬ O b ∧ W.heap[b]? = S0.w.heap[b]?) ∧ (W.os = S0.w.os ∧ W.tape = S0.w.tape ∧ W.output = S0.w.output) ∧ S0.w.heap.size ≤ W.heap.size ∧ ∀ b, O b → S0.w.heap.size ≤ b ∧ b < W.heap.size
  round : ∀ k row O W, rows[k]? = some row → J k O W → YieldAt Fence.wide m P l (encI row) W fun e W' => W.heap.size ≤ W'.heap.size ∧ (∀ b, O b → W'.heap[b]? = W.heap[b]?) ∧ (e = .returned (.bool true) ∧ J (k + 1) O W' ∨ e = .returned (.bool false) ∧ Jx (k + 1) O W')
namespace Itr
def at_ (I : Itr) : Option Nat → (Nat → Prop) → World → Prop
  | some k, O, W => I.J k O W
  | none, O, W => ∃ k, I.Jx k O W
structure Now (I : Itr) (s : Option Nat) (X : Nat → Prop) (S : MS) (H : AHeap) : Prop where
  rel : SRel S H
  base : S.base ≤ S.w.heap.size
  keep : ∀ b, X b → S.keep b
  im : ∀ b, I.S0.im b → S.im b
  apart : ∀ b, S.im b → I.S0.im b ∨ ¬ X b
  st : I.at_ s (fun b => b < S.w.heap.size ∧ ¬ X b ∧ ¬ I.S0.im b) S.w
theorem Now.on {I : Itr} {s : Option Nat} {X : Nat → Prop} {S S' : MS} {H H' : AHeap} (h : I.Now s X S H) (e : Evo S S') (hr : SRel S' H') : I.Now s X S' H' := by
  have hX : ∀ b, X b → b < S.w.heap.size := fun b hb => h.rel.im b (.inr (h.keep b hb))
  have hi0 : ∀ b, I.S0.im b → b < S.w.heap.size := fun b hb => h.rel.im b (.inl (h.im b hb))
  refine ⟨hr, by rw [e.base]; exact Nat.le_trans h.base e.size, fun b hb => e.keep b (h.keep b hb), fun b hb => e.im b (h.im b hb), fun b hb => ?_, ?_⟩
  · rcases e.fresh b hb with hh | hh
    · exact h.apart b hh
    · exact .inr fun hx => hh (h.keep b hx)
  · have ho : (fun b => b < S'.w.heap.size ∧ ¬ X b ∧ ¬ I.S0.im b) = fun b => (b < S.w.heap.size ∧ ¬ X b ∧ ¬ I.S0.im b) ∨ (S.w.heap.size ≤ b ∧ b < S'.w.heap.size) := by
      funext b
      refine propext ⟨fun ⟨h1, h2, h3⟩ => ?_, fun hh => ?_⟩
      · rcases Nat.lt_or_ge b S.w.heap.size with hl | hl
        · exact .inl ⟨hl, h2, h3⟩
        · exact .inr ⟨hl, h1⟩
      · rcases hh with ⟨h1, h2, h3⟩ | ⟨h1, h2⟩
        · exact ⟨Nat.lt_of_lt_of_le h1 e.size, h2, h3⟩
        · exact ⟨h2, fun hx => by have := hX b hx; omega, fun hx => by have := hi0 b hx; omega⟩
    rw [ho]
    have hk : ∀ b, b < S.w.heap.size → ¬ (b < S.w.heap.size ∧ ¬ X b ∧ ¬ I.S0.im b) → S'.w.heap[b]? = S.w.heap[b]? := fun b hb hn => by
      by_cases hx : X b
      · exact e.kept b (.inr (h.keep b hx))
      · by_cases hi : I.S0.im b
        · exact e.kept b (.inl (h.im b hi))
        · exact absurd ⟨hb, hx, hi⟩ hn
    cases s with
    | some k => exact I.cJ k _ _ _ h.st e.os e.tape e.output e.size hk
    | none => obtain ⟨k, hj⟩ := h.st; exact ⟨k, I.cx k _ _ _ hj e.os e.tape e.output e.size hk⟩
theorem Now.round {I : Itr} {k : Nat} {X : Nat → Prop} {S : MS} {H : AHeap} (h : I.Now (some k) X S H) {W' : World} {s' : Option Nat} (hsz : S.w.heap.size ≤ W'.heap.size) (ho : ∀ b, b < S.w.heap.size ∧ ¬ X b ∧ ¬ I.S0.im b → W'.heap[b]? = S.w.heap[b]?)
    (hi : ∀ b, I.S0.im b → W'.heap[b]? = S.w.heap[b]?) (hst : I.at_ s' (fun b => b < S.w.heap.size ∧ ¬ X b ∧ ¬ I.S0.im b) W') :
    ∃ S', S'.w = W' ∧ I.Now s' (fun b => X b ∨ (S.w.heap.size ≤ b ∧ b < W'.heap.size)) S' H ∧ Evi S S' := by
  obtain ⟨S', hd⟩ : ∃ S' : MS, S' = { S with w := W', keep := fun b => S.keep b ∨ (S.w.heap.size ≤ b ∧ b < W'.heap.size) } := ⟨_, rfl⟩
  have hX : ∀ b, X b → b < S.w.heap.size := fun b hb => h.rel.im b (.inr (h.keep b hb))
  have him : ∀ b, S.im b → b < S.w.heap.size := fun b hb => h.rel.im b (.inl hb)
  have hi0 : ∀ b, I.S0.im b → b < S.w.heap.size := fun b hb => him b (h.im b hb)
  have hw : ∀ b, S.im b → W'.heap[b]? = S.w.heap[b]? := fun b hb => by
    by_cases h0 : I.S0.im b
    · exact hi b h0
    · exact ho b ⟨him b hb, (h.apart b hb).resolve_left h0, h0⟩
  refine ⟨S', by rw [hd], ⟨?_, ?_, ?_, ?_, ?_, ?_⟩, ?_⟩
  · subst hd
    exact h.rel.turn2 hw rfl rfl rfl rfl rfl rfl (fun b hb => hb.imp id And.left) (fun b hb => hb.elim (fun hh => Nat.lt_of_lt_of_le (h.rel.im b (.inr hh)) hsz) And.right)
      (fun b hb hl => ho b ⟨hl, fun hx => hb (.inr (h.keep b hx)), fun hx => hb (.inl (h.im b hx))⟩) hsz
  · subst hd; exact Nat.le_trans h.base hsz
  · subst hd; exact fun b hb => hb.imp (h.keep b) id
  · subst hd; exact h.im
  · subst hd
    intro b hb
    rcases h.apart b hb with hh | hh
    · exact .inl hh
    · exact .inr fun hx => hx.elim hh fun hx => by have := him b hb; omega
  · subst hd
    have e : (fun b => b < W'.heap.size ∧ ¬ (X b ∨ (S.w.heap.size ≤ b ∧ b < W'.heap.size)) ∧ ¬ I.S0.im b) = fun b => b < S.w.heap.size ∧ ¬ X b ∧ ¬ I.S0.im b := by
      funext b
      refine propext ⟨fun ⟨h1, h2, h3⟩ => ⟨?_, fun hx => h2 (.inl hx), h3⟩, fun ⟨h1, h2, h3⟩ => ⟨by omega, fun hx => hx.elim h2 (fun hh => by omega), h3⟩⟩
      rcases Nat.lt_or_ge b S.w.heap.size with hl | hl
      · exact hl
      · exact absurd (.inr ⟨hl, h1⟩) h2
    show I.at_ s' _ W'
    rw [e]
    exact hst
  · subst hd
    exact Evi.of hw rfl rfl rfl rfl rfl rfl
end Itr
def AfterI (I : Itr) (n : Nat) (Q : Option Nat → Ex → Env → AHeap → Prop) (e : Exit) (a : Act) (w : World) : Prop :=
  ∃ S' env H' x s X, S'.w = w ∧ I.Now s X S' H' ∧ FRel S' n env a ∧ a.defers = [] ∧ e = Ex.up x ∧ Q s x env H'
def TI (I : Itr) (n : Nat) (c : AC) (s : Option Nat) (env : Env) (H : AHeap) (Q : Option Nat → Ex → Env → AHeap → Prop) : Prop :=
  ∀ code, compC I.P n code = some c → ∀ S a X, I.Now s X S H → FRel S n env a → a.defers = [] → code.wpIn (fen none) (I.m + 1) I.P (AfterI I n Q) a S.w
section
variable {I : Itr} {n : Nat} {s : Option Nat} {env : Env} {H : AHeap} {Q : Option Nat → Ex → Env → AHeap → Prop}
theorem TI_scope {F : Fence} {mm : Nat} {c : Code} {a : Act} {w : World} (h : c.wpIn F mm I.P (AfterI I n Q) a w) : (Code.scope c).wpIn F mm I.P (AfterI I n Q) a w := by
  refine wpIn_scope_straight (wpIn_mono h fun e a w hh => ?_)
  obtain ⟨S2, env, H', y, s, X, h1, h2, h3, h4, h5, h6⟩ := hh
  subst h5
  cases y <;> exact ⟨S2, env, H', _, s, X, h1, h2, h3, h4, rfl, h6⟩
theorem TI_of {c : AC} (h : ∀ code, compC I.P n code = some c → (∀ d, code ≠ .scope d) → ∀ S a X, I.Now s X S H → FRel S n env a → a.defers = [] → code.wpIn (fen none) (I.m + 1) I.P (AfterI I n Q) a S.w) : TI I n c s env H Q := by
  intro code
  induction code with
  | scope d ih => exact fun hc S a X hN hF hd => TI_scope (ih (by simpa [compC] using hc) S a X hN hF hd)
  | skip => exact fun hc => h _ hc (by simp)
  | region => exact fun hc => h _ hc (by simp)
  | seq => exact fun hc => h _ hc (by simp)
  | cond => exact fun hc => h _ hc (by simp)
  | block => exact fun hc => h _ hc (by simp)
  | loop => exact fun hc => h _ hc (by simp)
  | rangeFunc => exact fun hc => h _ hc (by simp)
  | exit => exact fun hc => h _ hc (by simp)
  | label => exact fun hc => h _ hc (by simp)
  | goto => exact fun hc => h _ hc (by simp)
  | ret => exact fun hc => h _ hc (by simp)
  | refuse => exact fun hc => h _ hc (by simp)
theorem TI_skip (h : Q s .normal env H) : TI I n .skip s env H Q := TI_of fun code hc hs S a X hN hF hd => by
  have hA : AfterI I n Q .normal a S.w := ⟨S, env, H, .normal, s, X, rfl, hN, hF, hd, rfl, h⟩
  cases code <;> simp only [compC, reduceCtorEq, Option.some.injEq] at hc
  case skip => exact wpIn_skip hA
  case label => exact wpIn_label hA
  case region => exact absurd hc compReg_ne
  case seq => split at hc <;> cases hc
  case cond => split at hc <;> cases hc
  case block => obtain ⟨_, _, h⟩ := Option.map_eq_some_iff.1 hc; cases h
  case loop => obtain ⟨_, _, h⟩ := Option.map_eq_some_iff.1 hc; cases h
  case rangeFunc => split at hc <;> cases hc
  case scope d => exact absurd rfl (hs d)
theorem TI_exit {id : Nat} (h : Q s (.exit id) env H) : TI I n (.exit id) s env H Q := TI_of fun code hc hs S a X hN hF hd => by
  cases code <;> simp only [compC, reduceCtorEq, Option.some.injEq] at hc
  case exit k => cases hc; exact wpIn_exit ⟨S, env, H, .exit id, s, X, rfl, hN, hF, hd, rfl, h⟩
  case region => exact absurd hc compReg_ne
  case seq => split at hc <;> cases hc
  case cond => split at hc <;> cases hc
  case block => obtain ⟨_, _, h⟩ := Option.map_eq_some_iff.1 hc; cases h
  case loop => obtain ⟨_, _, h⟩ := Option.map_eq_some_iff.1 hc; cases h
  case rangeFunc => split at hc <;> cases hc
  case scope d => exact absurd rfl (hs d)
theorem TI_ret (h : Q s .ret env H) : TI I n .ret s env H Q := TI_of fun code hc hs S a X hN hF hd => by
  cases code <;> simp only [compC, reduceCtorEq, Option.some.injEq] at hc
  case ret => exact wpIn_ret ⟨S, env, H, .ret, s, X, rfl, hN, hF, hd, rfl, h⟩
  case region => exact absurd hc compReg_ne
  case seq => split at hc <;> cases hc
  case cond => split at hc <;> cases hc
  case block => obtain ⟨_, _, h⟩ := Option.map_eq_some_iff.1 hc; cases h
  case loop => obtain ⟨_, _, h⟩ := Option.map_eq_some_iff.1 hc; cases h
  case rangeFunc => split at hc <;> cases hc
  case scope d => exact absurd rfl (hs d)
def Ex.thenI (K : Option Nat → Env → AHeap → Prop) (Q : Option Nat → Ex → Env → AHeap → Prop) : Option Nat → Ex → Env → AHeap → Prop
  | s, .normal, env, H => K s env H
  | s, x, env, H => Q s x env H
theorem TI_seq {x y : AC} (h : TI I n x s env H (Ex.thenI (fun s' env' H' => TI I n y s' env' H' Q) Q)) : TI I n (.seq x y) s env H Q := TI_of fun code hc hs S a X hN hF hd => by
  cases code <;> simp only [compC, reduceCtorEq, Option.some.injEq] at hc
  case seq c d =>
    split at hc
    · rename_i x' y' hx hy
      cases hc
      refine wpIn_seq (wpIn_mono (h c hx S a X hN hF hd) fun e a' w' hh => ?_)
      obtain ⟨S2, env2, H2, z, s2, X2, rfl, hN2, hF2, hd2, rfl, hq⟩ := hh
      cases z with
      | normal => exact hq d hy S2 a' X2 hN2 hF2 hd2
      | exit id => exact ⟨S2, env2, H2, .exit id, s2, X2, rfl, hN2, hF2, hd2, rfl, hq⟩
      | ret => exact ⟨S2, env2, H2, .ret, s2, X2, rfl, hN2, hF2, hd2, rfl, hq⟩
    · cases hc
  case region => exact absurd hc compReg_ne
  case cond => split at hc <;> cases hc
  case block => obtain ⟨_, _, h⟩ := Option.map_eq_some_iff.1 hc; cases h
  case loop => obtain ⟨_, _, h⟩ := Option.map_eq_some_iff.1 hc; cases h
  case rangeFunc => split at hc <;> cases hc
  case scope d => exact absurd rfl (hs d)
theorem TI_cond {c : AArg} {x y : AC} {q : Bool} (hc : c.eval env = .bool q) (ht : q = true → TI I n x s env H Q) (hf : q = false → TI I n y s env H Q) : TI I n (.cond c x y) s env H Q := TI_of fun code hcc hs S a X hN hF hd => by
  cases code <;> simp only [compC, reduceCtorEq, Option.some.injEq] at hcc
  case cond z p q' =>
    split at hcc
    · rename_i z' p2 q2 hz hp hq
      cases hcc
      have hv := arg_rel hF hz
      rw [hc] at hv
      exact wpIn_cond_split (t := q) hv (fun hbb => ht hbb p hp S a X hN hF hd) (fun hbb => hf hbb q' hq S a X hN hF hd)
    · cases hcc
  case region => exact absurd hcc compReg_ne
  case seq => split at hcc <;> cases hcc
  case block => obtain ⟨_, _, h⟩ := Option.map_eq_some_iff.1 hcc; cases h
  case loop => obtain ⟨_, _, h⟩ := Option.map_eq_some_iff.1 hcc; cases h
  case rangeFunc => split at hcc <;> cases hcc
  case scope d => exact absurd rfl (hs d)
def Ex.inBlockI (id : Nat) (Q : Option Nat → Ex → Env → AHeap → Prop) : Option Nat → Ex → Env → AHeap → Prop
  | s, .exit k, env, H => if k = id then Q s .normal env H else Q s (.exit k) env H
  | s, x, env, H => Q s x env H
theorem TI_block {id : Nat} {c : AC} (h : TI I n c s env H (Ex.inBlockI id Q)) : TI I n (.block id c) s env H Q := TI_of fun code hc hs S a X hN hF hd => by
  cases code <;> simp only [compC, reduceCtorEq, Option.some.injEq] at hc
  case block k d =>
    obtain ⟨x, hx, hh⟩ := Option.map_eq_some_iff.1 hc
    cases hh
    refine wpIn_block (wpIn_mono (h d hx S a X hN hF hd) fun e a' w' hh => ?_)
    obtain ⟨S2, env2, H2, z, s2, X2, h1, hN2, hF2, hd2, rfl, hq⟩ := hh
    cases z with
    | normal => exact ⟨S2, env2, H2, .normal, s2, X2, h1, hN2, hF2, hd2, rfl, hq⟩
    | exit j =>
      simp only [Ex.up, Exit.inBlock]
      simp only [Ex.inBlockI] at hq
      split
      · rename_i hj; rw [if_pos hj] at hq; exact ⟨S2, env2, H2, .normal, s2, X2, h1, hN2, hF2, hd2, rfl, hq⟩
      · rename_i hj; rw [if_neg hj] at hq; exact ⟨S2, env2, H2, .exit j, s2, X2, h1, hN2, hF2, hd2, rfl, hq⟩
    | ret => exact ⟨S2, env2, H2, .ret, s2, X2, h1, hN2, hF2, hd2, rfl, hq⟩
  case region => exact absurd hc compReg_ne
  case seq => split at hc <;> cases hc
  case cond => split at hc <;> cases hc
  case loop => obtain ⟨_, _, h⟩ := Option.map_eq_some_iff.1 hc; cases h
  case rangeFunc => split at hc <;> cases hc
  case scope d => exact absurd rfl (hs d)
theorem TI_loop {σ : Type} (Inv : σ → Option Nat → Env → AHeap → Prop) (μ : σ → Nat) {c : AC} (s0 : σ) (h0 : Inv s0 s env H)
    (round : ∀ t s env H, Inv t s env H → TI I n c s env H (Ex.thenI (fun s' env' H' => ∃ t', Inv t' s' env' H' ∧ μ t' < μ t) Q)) : TI I n (.loop c) s env H Q := TI_of fun code hc hs S a X hN hF hd => by
  cases code <;> simp only [compC, reduceCtorEq, Option.some.injEq] at hc
  case loop d =>
    obtain ⟨x, hx, hh⟩ := Option.map_eq_some_iff.1 hc
    cases hh
    refine wpIn_loop_ghost (fun k a w => ∃ S' t s env H X, S'.w = w ∧ I.Now s X S' H ∧ FRel S' n env a ∧ a.defers = [] ∧ Inv t s env H ∧ μ t = k) (μ s0) ⟨S, s0, s, env, H, X, rfl, hN, hF, hd, h0, rfl⟩ ?_
    rintro k a w ⟨S1, t, s1, env1, H1, X1, rfl, hN1, hF1, hd1, hI, rfl⟩
    refine wpIn_mono (round t s1 env1 H1 hI d hx S1 a X1 hN1 hF1 hd1) fun e a' w' hh => ?_
    obtain ⟨S2, env2, H2, z, s2, X2, rfl, hN2, hF2, hd2, rfl, hq⟩ := hh
    cases z with
    | normal =>
      obtain ⟨t', h1, h2⟩ := hq
      exact ⟨μ t', h2, S2, t', s2, env2, H2, X2, rfl, hN2, hF2, hd2, h1, rfl⟩
    | exit id => exact ⟨S2, env2, H2, .exit id, s2, X2, rfl, hN2, hF2, hd2, rfl, hq⟩
    | ret => exact ⟨S2, env2, H2, .ret, s2, X2, rfl, hN2, hF2, hd2, rfl, hq⟩
  case region => exact absurd hc compReg_ne
  case seq => split at hc <;> cases hc
  case cond => split at hc <;> cases hc
  case block => obtain ⟨_, _, h⟩ := Option.map_eq_some_iff.1 hc; cases h
  case rangeFunc => split at hc <;> cases hc
  case scope d => exact absurd rfl (hs d)
theorem TI_reg {ops : List AOp} (h : runK I.P ops env H fun env' H' => Q s .normal env' H') : TI I n (.reg ops) s env H Q := TI_of fun code hc hs S a X hN hF hd => by
  cases code <;> simp only [compC, reduceCtorEq, Option.some.injEq] at hc
  case region id l draw =>
    split at hc
    · rename_i r hr
      obtain ⟨hd', rfl⟩ := compReg_reg hc
      subst hd'
      refine wpIn_region ?_
      have := run_soundI (ops := l) (rd := none) (m := I.m + 1) (Q := AfterI I n Q) [] l.toList ops 0 (by simp) hr hN.rel hF h (fun S' H' env' a' e hS' hF' hdd hK => ⟨S', env', H', .normal, s, X, rfl, hN.on e hS', hF', hdd.trans hd, rfl, hK⟩)
      rw [List.range_eq_range']
      simpa using this
    · cases hc
  case seq => split at hc <;> cases hc
  case cond => split at hc <;> cases hc
  case block => obtain ⟨_, _, h⟩ := Option.map_eq_some_iff.1 hc; cases h
  case loop => obtain ⟨_, _, h⟩ := Option.map_eq_some_iff.1 hc; cases h
  case rangeFunc => split at hc <;> cases hc
  case scope d => exact absurd rfl (hs d)
theorem mapM_split {α β : Type} {f : α → Option β} : ∀ (p : List β) {l : List α} {y : β} {q : List β}, l.mapM f = some (p ++ y :: q) → ∃ l1 o l2, l = l1 ++ o :: l2 ∧ l1.mapM f = some p ∧ f o = some y ∧ l2.mapM f = some q
  | [], l, y, q, h => by
    cases l with
    | nil => simp at h
    | cons o l =>
      rw [List.mapM_cons] at h
      simp only [Option.bind_eq_bind, Option.bind_eq_some_iff, Option.pure_def, Option.some.injEq, List.nil_append, List.cons.injEq] at h
      obtain ⟨y', hy, r, hr, rfl, rfl⟩ := h
      exact ⟨[], o, l, rfl, rfl, hy, hr⟩
  | z :: p, l, y, q, h => by
    cases l with
    | nil => simp at h
    | cons o l =>
      rw [List.mapM_cons] at h
      simp only [Option.bind_eq_bind, Option.bind_eq_some_iff, Option.pure_def, Option.some.injEq, List.cons_append, List.cons.injEq] at h
      obtain ⟨z', hz, r, hr, rfl, rfl⟩ := h
      obtain ⟨l1, o', l2, rfl, h1, h2, h3⟩ := mapM_split p hr
      exact ⟨o :: l1, o', l2, rfl, by rw [List.mapM_cons, hz, h1]; rfl, h2, h3⟩
theorem compK_call {P : Program} {op : Op} (h : compK P op = some .call) : ∃ g args argTypes, op = .call { callee := .value g, args, argTypes } := by
  cases op
  case call c =>
    obtain ⟨callee, args, argTypes⟩ := c
    cases callee <;> simp only [compK, compBuiltin, reduceCtorEq] at h
    case value g => exact ⟨g, args, argTypes, rfl⟩
    case builtin b =>
      repeat' split at h
      all_goals first
        | (cases h; done)
        | (simp at h; done)
  all_goals simp only [compK, reduceCtorEq] at h
  all_goals repeat' split at h
  all_goals first
    | contradiction
    | (cases h; done)
    | (obtain ⟨⟨_, _⟩, _, h⟩ := Option.map_eq_some_iff.1 h; cases h; done)
    | (obtain ⟨_, _, h⟩ := Option.map_eq_some_iff.1 h; cases h; done)
    | (simp at h; done)
def Fixed (x : AV) : Prop := ∀ S v, VRel S x v → v = valOf x
theorem fixed_vals {S : MS} : ∀ {xs : List AV} {vs : List Value}, (∀ x ∈ xs, Fixed x) → VsRel S xs vs → vs = xs.map valOf
  | [], vs, _, h => h
  | x :: xs, vs, hf, ⟨v, r, hv, h1, h2⟩ => by
    rw [hv, hf x (by simp) S v h1, fixed_vals (fun y hy => hf y (by simp [hy])) h2]
    rfl
theorem TI_yield {pre post : List AOp} {y : AOp} {k : Nat} (hk : y.k = .call) (hg : y.guard = none)
    (h : runK I.P pre env H fun env1 H1 => ∃ row, y.vals env1 = .yld I.l :: row ∧ (∀ x ∈ row, Fixed x) ∧ I.rows[k]? = some row ∧
      runK I.P post (env1.put y.dst (.bool true)) H1 (fun env2 H2 => Q (some (k + 1)) .normal env2 H2) ∧ runK I.P post (env1.put y.dst (.bool false)) H1 (fun env2 H2 => Q none .normal env2 H2)) :
    TI I n (.reg (pre ++ y :: post)) (some k) env H Q := TI_of fun code hc hs S a X hN hF hd => by
  cases code <;> simp only [compC, reduceCtorEq, Option.some.injEq] at hc
  case region id l draw =>
    split at hc
    · rename_i r hr
      obtain ⟨hd', hrr⟩ := compReg_reg hc
      subst hrr
      subst hd'
      refine wpIn_region ?_
      obtain ⟨l1, o, l2, hl, h1, h2, h3⟩ := mapM_split pre hr
      have hsz : l.size = l1.length + (l2.length + 1) := by rw [← Array.length_toList, hl]; simp
      rw [List.range_eq_range', hsz, List.range'_append_1 |>.symm]
      have hat : ∀ j : Nat, l[j]? = (l1 ++ o :: l2)[j]? := fun j => by rw [← hl, Array.getElem?_toList]
      refine run_soundI (ops := l) (rd := none) (m := I.m + 1) (Q := AfterI I n Q) _ l1 pre 0 (fun j hj => by rw [Nat.zero_add, hat, List.getElem?_append_left hj]) h1 hN.rel hF h (fun S1 H1 env1 a1 e1 hS1 hF1 hd1 hK => ?_)
      obtain ⟨row, hv, hfx, hrow, ht, hff⟩ := hK
      have hN1 := hN.on e1 hS1
      have ho : l[l1.length]? = some o := by rw [hat]; simp
      rw [show List.range' (0 + l1.length) (l2.length + 1) = l1.length :: List.range' (l1.length + 1) l2.length from by rw [Nat.zero_add]; rfl]
      simp only [wpOpsIn, ho]
      obtain ⟨c1, c2, c3, c4, c5⟩ := compOp_spec h2
      have hw : Region.wanted o (yielded l a1.tmps) = true := by
        rcases c5 with ⟨g1, _⟩ | ⟨j, want, d, g1, g2, _⟩
        · simp [Region.wanted, g1]
        · rw [hg] at g2; cases g2
      rw [hw]
      simp only [if_true]
      have hargs := args_rel hF1 c2
      rw [show y.args.map (·.eval env1) = y.vals env1 from rfl, hv] at hargs
      rw [hk] at c1
      obtain ⟨g, args, argTypes, hop⟩ := compK_call c1
      obtain ⟨fn, tm, asg, bd, hy, hR⟩ := I.round k row _ _ hrow hN1.st
      have hrun : (o.semAt (fen none).round a1.eval).run I.P S1.w = .ok (.round I.l fn tm asg bd) S1.w := by
        rw [show (fen none).round = none from rfl, Oper.semAt_none]
        rw [hop] at hargs
        have hargs' : VsRel S1 (.yld I.l :: row) (a1.eval g :: args.toList.map a1.eval) := by simpa [Op.operands, Call.operands] using hargs
        obtain ⟨v, vs, hvv, hv1, hv2⟩ := hargs'
        cases hvv
        have hvs := fixed_vals hfx hv2
        have hv1' : a1.eval g = .func (.yield I.l) #[] #[] := hv1
        have e : args.map a1.eval = encI row := by apply Array.ext'; simp [hvs]
        have hex : execOp a1.eval o = (do let d ← Deferred.ofValue (a1.eval g) (args.map a1.eval); invoke d.target d.args : Sem Next) := by
          cases o
          simp only at hop
          subst hop
          rfl
        rw [hex, e, hv1']
        simp only [Deferred.ofValue, Sem.run_bind, Sem.run_pure, Result.andThen_ok, invoke]
        simpa using hy
      refine ⟨fun _ _ => trivial, ?_⟩
      rw [hrun, Oper.uponIn_round]
      refine ⟨fun h => (by cases h), ?_⟩
      refine RoundIn.mono (F := fen none) (n := I.m) hR fun e W' hh => ?_
      obtain ⟨hsz', ho', hcase⟩ := hh
      have hf0 := (I.fact k _ _ (.inl hN1.st)).1
      have hdef : a1.defers = [] := hd1.trans hd
      have hgo : ∀ (bv : Bool) (s' : Option Nat), I.at_ s' (fun b => b < S1.w.heap.size ∧ ¬ X b ∧ ¬ I.S0.im b) W' → (∀ b, I.S0.im b → W'.heap[b]? = I.S0.w.heap[b]?) →
          runK I.P post (env1.put y.dst (.bool bv)) H1 (fun env2 H2 => Q s' .normal env2 H2) → wpOpsIn (fen none) (I.m + 1) I.P l (AfterI I n Q) (List.range' (l1.length + 1) l2.length) (a1.put o.dst (.bool bv)) W' := fun bv s' hst him hrk => by
        obtain ⟨S2, hw2, hN2, ev2⟩ := hN1.round hsz' ho' (fun b hb => (him b hb).trans ((hf0 b hb).2).symm) hst
        have hF2 : FRel S2 n env1 a1 := ⟨hF1.size, by rw [hdef]; exact Marks.nil hN2.base, fun i hi => VRel.moni ev2 _ (hF1.val i hi)⟩
        have hF3 := hF2.put (dst := y.dst) (by rw [c3]; exact c4) (x := .bool bv) (v := .bool bv) rfl
        rw [c3] at hF3
        rw [c3] at hrk
        rw [← hw2]
        have := run_soundI (ops := l) (rd := none) (m := I.m + 1) (Q := AfterI I n Q) [] l2 post (l1.length + 1) (fun j hj => by rw [hat, List.getElem?_append_right (by omega), show l1.length + 1 + j - l1.length = j + 1 from by omega]; rfl) h3 hN2.rel hF3 hrk
          (fun S' H' env' a' e hS' hF' hdd hK => ⟨S', env', H', .normal, s', _, rfl, hN2.on e hS', hF', hdd.trans ((put_defers _ _ _).trans hdef), rfl, hK⟩)
        simpa using this
      rcases hcase with ⟨rfl, hj⟩ | ⟨rfl, hj⟩
      · exact hgo true (some (k + 1)) hj (fun b hb => ((I.fact _ _ _ (.inl hj)).1 b hb).2) ht
      · exact hgo false none ⟨_, hj⟩ (fun b hb => ((I.fact _ _ _ (.inr hj)).1 b hb).2) hff
    · cases hc
  case seq => split at hc <;> cases hc
  case cond => split at hc <;> cases hc
  case block => obtain ⟨_, _, h⟩ := Option.map_eq_some_iff.1 hc; cases h
  case loop => obtain ⟨_, _, h⟩ := Option.map_eq_some_iff.1 hc; cases h
  case rangeFunc => split at hc <;> cases hc
  case scope d => exact absurd rfl (hs d)
theorem iter_ok {P : Program} {gf : Nat} {caps : List AV} {rows : List (List AV)} {fn : AFn} (hf : compFn P gf (caps.length + 1) = some fn)
    (h : ∀ I : Itr, I.P = P → I.rows = rows → TI I fn.n fn.body (some 0) (entry (.yld I.l :: caps)) AHeap.nil (fun s x env H => Ret P fn.res (fun _ _ => True) x env H ∧ (s = some rows.length ∨ s = none))) : IterOK P gf caps rows := by
  refine ⟨enters_of hf, fun m l S0 lb J Jx hS0 hx0 cJ cx hj fact round => ?_⟩
  obtain ⟨F, c, hF, hb, hn, hc, hr, hnp, _⟩ := compFn_spec hf
  obtain ⟨S, hSd⟩ : ∃ S : MS, S = { S0 with base := S0.w.heap.size, keep := fun b => b < S0.w.heap.size ∧ ¬ S0.im b } := ⟨_, rfl⟩
  have ev0 : Evi S0 S := by subst hSd; exact Evi.of (fun _ _ => rfl) rfl rfl rfl rfl rfl rfl
  have hw0 : S.w = S0.w := by rw [hSd]
  have hS : SRel S AHeap.nil := by
    subst hSd
    exact ⟨hS0.n, fun g hg => absurd hg (Nat.not_lt_zero _), fun g _ hg => absurd hg (Nat.not_lt_zero _), fun b hb => hb.elim (fun h => hS0.im b (.inl h)) And.left⟩
  have hx : VsRel S caps lb := VsRel.moni ev0 _ hx0
  have hlen := hx.length
  let I : Itr := ⟨P, l, m, rows, S0, J, Jx, cJ, cx, fact, round⟩
  have hN : I.Now (some 0) (fun b => b < S0.w.heap.size ∧ ¬ S0.im b) S AHeap.nil := by
    refine ⟨hS, by rw [hSd]; exact Nat.le_refl _, fun b hb => by rw [hSd]; exact hb, fun b hb => by rw [hSd]; exact hb, fun b hb => .inl (by rw [hSd] at hb; exact hb), ?_⟩
    have e : (fun b => b < S.w.heap.size ∧ ¬ (b < S0.w.heap.size ∧ ¬ S0.im b) ∧ ¬ I.S0.im b) = fun _ => False := by
      funext b
      refine propext ⟨fun ⟨h1, h2, h3⟩ => h2 ⟨by rw [hw0] at h1; exact h1, h3⟩, False.elim⟩
    rw [e, hw0]
    exact hj
  refine callsIn_of_wp_marks (F := Fence.wide) (n := m + 1) hF hb trivial ?_
  have hfr : FRel S fn.n (entry (.yld l :: caps)) { tmps := (#[Value.func (.yield l) #[] #[]] ++ lb.toArray) ++ Array.replicate (F.ntmps - (#[Value.func (.yield l) #[] #[]] ++ lb.toArray).size) undef, defers := [] } := by
    have hx' : VsRel S (.yld l :: caps) (.func (.yield l) #[] #[] :: lb) := ⟨_, _, rfl, rfl, hx⟩
    refine ⟨by simp; omega, Marks.nil hN.base, fun i hi => ?_⟩
    by_cases hlt : i < (AV.yld l :: caps).length
    · obtain ⟨v, hv, hr⟩ := hx'.get (List.getElem?_eq_getElem hlt)
      have e1 : entry (.yld l :: caps) i = (AV.yld l :: caps)[i] := by simp [entry, List.getD, List.getElem?_eq_getElem hlt]
      have e2 : ((#[Value.func (.yield l) #[] #[]] ++ lb.toArray) ++ Array.replicate (F.ntmps - (#[Value.func (.yield l) #[] #[]] ++ lb.toArray).size) undef).getD i undef = v := by
        have hsz : i < (#[Value.func (.yield l) #[] #[]] ++ lb.toArray).size := by simp at hlt ⊢; omega
        rw [Array.getD_eq_getD_getElem?, Array.getElem?_append_left hsz]
        have : (#[Value.func (.yield l) #[] #[]] ++ lb.toArray)[i]? = (Value.func (.yield l) #[] #[] :: lb)[i]? := by simp
        rw [this, hv]; rfl
      rw [e1, e2]
      exact hr
    · have e1 : entry (.yld l :: caps) i = .any := by simp [entry, List.getD, List.getElem?_eq_none (Nat.le_of_not_lt hlt)]
      rw [e1]
      trivial
  rw [← hw0]
  refine wpIn_mono (h I rfl rfl c hc S _ _ hN hfr rfl) fun e a w' hh => ?_
  obtain ⟨S2, env2, H2, z, s2, X2, rfl, hN2, hF2, hd2, rfl, ⟨hq, hres⟩, hst⟩ := hh
  have fin : LeavesInM Fence.wide (m + 1) P F a.tmps (fun e W' => (∃ v, e = .returned v) ∧ ((∃ O, J rows.length O W') ∨ ∃ k O, Jx k O W')) a.defers .returning S2.w := by
    rw [hd2]
    refine leaves_marks [] S2.w List.nodup_nil (fun D hd => by cases hd) ?_
    obtain ⟨vs, ys, h1, h2, h3⟩ := results_ok hN2.rel hF2 hr hres
    refine ⟨if h : vs.toArray.size = 1 then vs.toArray[0] else .tuple vs.toArray, ?_, ⟨_, rfl⟩, ?_⟩
    · have e : results F a.tmps = (do let vs ← F.results.mapM (resSem a.tmps); pure (if h : vs.size = 1 then vs[0] else .tuple vs)) := by
        unfold results
        congr
      rw [e, Array.mapM_eq_mapM_toList]
      show Sem.run P _ S2.w = _
      simp only [Sem.run_bind, Sem.run_map, h1, Result.andThen_ok, Sem.run_pure]
      rfl
    · have := hN2.st
      rcases hst with rfl | rfl
      · exact .inl ⟨_, this⟩
      · obtain ⟨k, hk⟩ := this; exact .inr ⟨k, _, hk⟩
  cases z with
  | normal => exact fin
  | exit id => exact hq.elim
  | ret => exact fin
end
end Go.Proofs.Yticodgjinajkpaa.Abs
set_option linter.unusedSimpArgs false
set_option linter.unusedVariables false
namespace Go.Proofs.Yticodgjinajkpaa
open Abs
def domL (s : Int) : List Span := if s = 1 then [⟨0, 255⟩] else if s = 2 then [⟨0, 55295⟩, ⟨57344, 1114111⟩] else []
theorem part_Whole (a : Int) : PC Try.prog 58 [.int .i64 a] (partV ⟨a, 0, 21, 0⟩) := by
  refine pc_w' c_part_Whole ?_
  unfold B_part_Whole
  (repeat' (first | (simp (disch := omega) only [push_cast, ↓zz, seval]) | (with_reducible refine And.intro ?_ ?_) | (with_reducible refine condW_split ?_ ?_ <;> intro hc <;> (try simp only [push_cast] at hc)) | (with_reducible refine guardW_split ?_ ?_ <;> intro hc <;> (try simp only [push_cast] at hc)) | omega | (with_reducible intro _)))
def bitsB (p : Part) : Bool := decide (0 ≤ p.drop ∧ p.drop < 21 ∧ 1 ≤ p.take ∧ p.take ≤ 21 ∧ 0 ≤ p.up ∧ p.up < 21 ∧ (p.up = 0 ∨ p.take ≤ 6))
theorem part_bits (p : Part) : PC Try.prog 99 [partV p] (.bool (bitsB p)) := by
  refine pc_w' c_part_bits ?_
  unfold B_part_bits
  (repeat' (first | (simp (disch := omega) only [push_cast, ↓zz, seval]) | (with_reducible refine And.intro ?_ ?_) | (with_reducible refine condW_split ?_ ?_ <;> intro hc <;> (try simp only [push_cast] at hc)) | (with_reducible refine guardW_split ?_ ?_ <;> intro hc <;> (try simp only [push_cast] at hc)) | omega | (with_reducible intro _)))
  all_goals (unfold bitsB; first | (refine tt_dec ?_; omega) | (refine ff_dec ?_; omega) | (refine dec_dec ?_; omega))
def rightB (p : Part) (n : Int) : Bool := decide (0 ≤ p.at_ ∧ p.at_ < n) && bitsB p
theorem part_Right (p : Part) (n : Int) : PC Try.prog 78 [partV p, .int .i64 n] (.bool (rightB p n)) := by
  refine pc_w' c_part_Right ?_
  unfold B_part_Right
  (repeat' (first | (simp (disch := omega) only [push_cast, ↓zz, seval]) | (with_reducible refine And.intro ?_ ?_) | (with_reducible refine condW_split ?_ ?_ <;> intro hc <;> (try simp only [push_cast] at hc)) | (with_reducible refine guardW_split ?_ ?_ <;> intro hc <;> (try simp only [push_cast] at hc)) | (have q_ := part_bits p; (with_reducible first | refine eK q_ ?_ | refine eQ q_ ?_ | refine eG q_ ?_); clear q_) | (have q_ := part_bits p; (with_reducible first | refine cK q_ ?_ | refine cQ q_ ?_ | refine cG q_ ?_); clear q_; (simp (disch := omega) only [push_cast, ↓zz, seval]); (fail_if_success (with_reducible change False))) | omega | (with_reducible intro _)))
  all_goals (simp [rightB, *] <;> omega)
def valP (p : Part) (x : Int) : Int := x / 2 ^ p.drop.toNat % 2 ^ p.take.toNat * 2 ^ p.up.toNat
def valB (p : Part) (x : Int) : Bool := bitsB p && decide (0 ≤ x ∧ x ≤ 2097151)
def val1 (p : Part) (x : Int) : Int := if valB p x then valP p x else 0
abbrev valV (p : Part) (x : Int) : AV := .tup [.int .i64 (val1 p x), .bool (valB p x)]
theorem bits_iff {p : Part} : bitsB p = true ↔ (0 ≤ p.drop ∧ p.drop < 21 ∧ 1 ≤ p.take ∧ p.take ≤ 21 ∧ 0 ≤ p.up ∧ p.up < 21 ∧ (p.up = 0 ∨ p.take ≤ 6)) := by simp [bitsB]
theorem pow21 (d : Nat) (h : d ≤ 21) : (1 : Int) ≤ 2 ^ d ∧ (2 : Int) ^ d ≤ 2097152 :=
  ⟨Int.pow_pos (by decide), by have := Nat.pow_le_pow_right (n := 2) (by decide) h; have e : ((2 ^ d : Nat) : Int) = 2 ^ d := by simp
                               rw [← e]; omega⟩
theorem val_bits {p : Part} {x : Int} (hb : bitsB p = true) (hx : 0 ≤ x ∧ x ≤ 2097151) :
    IntKind.i64.wrap (bitsI .and .i64 (x.fdiv (2 ^ min p.drop.toNat IntKind.i64.bits)) (IntKind.i64.wrap (IntKind.i64.wrap (1 * 2 ^ min p.take.toNat IntKind.i64.bits) - 1)) * 2 ^ min p.up.toNat IntKind.i64.bits) = valP p x := by
  rw [bits_iff] at hb
  have e1 : min p.drop.toNat IntKind.i64.bits = p.drop.toNat := Nat.min_eq_left (by show _ ≤ 64; omega)
  have e2 : min p.take.toNat IntKind.i64.bits = p.take.toNat := Nat.min_eq_left (by show _ ≤ 64; omega)
  have e3 : min p.up.toNat IntKind.i64.bits = p.up.toNat := Nat.min_eq_left (by show _ ≤ 64; omega)
  rw [e1, e2, e3]
  have hd := pow21 p.drop.toNat (by omega)
  have ht := pow21 p.take.toNat (by omega)
  have hu := pow21 p.up.toNat (by omega)
  rw [Int.one_mul, IntWalk.i64_in (2 ^ p.take.toNat) (by omega), IntWalk.i64_in (2 ^ p.take.toNat - 1) (by omega), fdiv_of _ _ (by omega)]
  have q0 : 0 ≤ x / 2 ^ p.drop.toNat := Int.ediv_nonneg hx.1 (by omega)
  have q1 : x / 2 ^ p.drop.toNat ≤ x := Int.ediv_le_self _ hx.1
  have m0 := Int.emod_nonneg (x / 2 ^ p.drop.toNat) (b := 2 ^ p.take.toNat) (by omega)
  have m1 := Int.emod_lt_of_pos (x / 2 ^ p.drop.toNat) (b := 2 ^ p.take.toNat) (by omega)
  rw [and_low p.take.toNat ⟨q0, by show _ < (2 : Int) ^ 64; omega⟩ (by show _ ≤ 64; omega) (IntWalk.i64_in _ (by omega))]
  refine IntWalk.i64_in _ ?_
  have : x / 2 ^ p.drop.toNat % 2 ^ p.take.toNat * 2 ^ p.up.toNat ≤ 2097152 * 2097152 := Int.mul_le_mul (by omega) (by omega) (by omega) (by omega)
  have : 0 ≤ x / 2 ^ p.drop.toNat % 2 ^ p.take.toNat * 2 ^ p.up.toNat := Int.mul_nonneg (by omega) (by omega)
  omega
theorem val_yes {p : Part} {x : Int} (hb : bitsB p = true) (hx : 0 ≤ x ∧ x ≤ 2097151) : valB p x = true ∧ val1 p x = valP p x := by
  have : valB p x = true := by simp only [valB, hb, Bool.true_and, decide_eq_true_eq]; exact hx
  exact ⟨this, by rw [val1, this]; rfl⟩
theorem val_no {p : Part} {x : Int} (h : bitsB p = false ∨ x < 0 ∨ 2097151 < x) : valB p x = false ∧ val1 p x = 0 := by
  have : valB p x = false := by
    simp only [valB, Bool.and_eq_false_iff, decide_eq_false_iff_not]
    rcases h with h | h
    · exact .inl h
    · exact .inr (by omega)
  exact ⟨this, by rw [val1, this]; rfl⟩
theorem val_eqn {p : Part} {x : Int} (h : bitsB p = false ∨ x < 0 ∨ 2097151 < x) : valV p x = .tup [.int .i64 0, .bool false] := by
  obtain ⟨h1, h2⟩ := val_no h
  simp only [valV, h1, h2]
theorem val_eqy {p : Part} {x : Int} (hb : bitsB p = true) (hx : 0 ≤ x ∧ x ≤ 2097151) : valV p x = .tup [.int .i64 (valP p x), .bool true] := by
  obtain ⟨h1, h2⟩ := val_yes hb hx
  simp only [valV, h1, h2]
theorem part_Value (p : Part) (x : Int) : PC Try.prog 124 [partV p, .int .i64 x] (valV p x) := by
  refine pc_w' c_part_Value ?_
  unfold B_part_Value
  (repeat' (first | (simp (disch := omega) only [push_cast, ↓zz, seval]) | (with_reducible refine And.intro ?_ ?_) | (with_reducible refine condW_split ?_ ?_ <;> intro hc <;> (try simp only [push_cast] at hc)) | (with_reducible refine guardW_split ?_ ?_ <;> intro hc <;> (try simp only [push_cast] at hc)) | (have q_ := part_bits p; (with_reducible first | refine eK q_ ?_ | refine eQ q_ ?_ | refine eG q_ ?_); clear q_) | (have q_ := part_bits p; (with_reducible first | refine cK q_ ?_ | refine cQ q_ ?_ | refine cG q_ ?_); clear q_; (simp (disch := omega) only [push_cast, ↓zz, seval]); (fail_if_success (with_reducible change False))) | omega | (with_reducible intro _)))
  all_goals first | (have hb := bits_iff.1 ‹bitsB p = true›; omega) | (rw [val_eqn (.inl ‹_›)]; (repeat' (first | (simp (disch := omega) only [push_cast, ↓zz, seval, an_tup]) | omega | (with_reducible refine And.intro ?_ ?_))); done) | (rw [val_eqn (.inr (by omega))]; (repeat' (first | (simp (disch := omega) only [push_cast, ↓zz, seval, an_tup]) | omega | (with_reducible refine And.intro ?_ ?_))); done) | (rw [val_eqy ‹_› (by omega)]; (repeat' (first | (simp (disch := omega) only [push_cast, ↓zz, seval, an_tup]) | omega | (with_reducible refine And.intro ?_ ?_))); exact val_bits ‹_› (by omega))
theorem word_Domain (s : Int) : PC Try.prog 37 [.int .i64 s] (spansV (domL s)) := by
  refine pc_w' c_word_Domain ?_
  unfold B_word_Domain
  (repeat' (first | (simp (disch := omega) only [push_cast, ↓zz, seval]) | (with_reducible refine And.intro ?_ ?_) | (with_reducible refine condW_split ?_ ?_ <;> intro hc <;> (try simp only [push_cast] at hc)) | (with_reducible refine guardW_split ?_ ?_ <;> intro hc <;> (try simp only [push_cast] at hc)) | omega | (with_reducible intro _)))
  all_goals (simp only [domL, *]; rfl)
end Go.Proofs.Yticodgjinajkpaa
set_option linter.unusedSimpArgs false
set_option linter.unusedVariables false
namespace Go.Proofs.Yticodgjinajkpaa
open Abs
abbrev Term.outer (t : Term) : Part := ⟨0, t.drop, t.take, t.up⟩
theorem term_outer (t : Term) : PC Try.prog 83 [termV t] (partV t.outer) := by
  refine pc_w' c_term_outer ?_
  unfold B_term_outer
  (repeat' (first | (simp (disch := omega) only [push_cast, ↓zz, seval]) | (with_reducible refine And.intro ?_ ?_) | (with_reducible refine condW_split ?_ ?_ <;> intro hc <;> (try simp only [push_cast] at hc)) | (with_reducible refine guardW_split ?_ ?_ <;> intro hc <;> (try simp only [push_cast] at hc)) | omega | (with_reducible intro _)))
def plainB (t : Term) : Bool := decide (t.base = 0 ∧ t.drop = 0 ∧ t.take = 21 ∧ t.up = 0)
def wholeB (p : Part) : Bool := decide (p.drop = 0 ∧ p.take = 21 ∧ p.up = 0)
theorem term_plain (t : Term) : PC Try.prog 79 [termV t] (.bool (plainB t)) := by
  refine pc_w' c_term_plain ?_
  unfold B_term_plain
  (repeat' (first | (simp (disch := omega) only [push_cast, ↓zz, seval]) | (with_reducible refine And.intro ?_ ?_) | (with_reducible refine condW_split ?_ ?_ <;> intro hc <;> (try simp only [push_cast] at hc)) | (with_reducible refine guardW_split ?_ ?_ <;> intro hc <;> (try simp only [push_cast] at hc)) | (have q_ := term_outer t; (with_reducible first | refine eK q_ ?_ | refine eQ q_ ?_ | refine eG q_ ?_); clear q_) | (have q_ := part_Whole 0; (with_reducible first | refine eK q_ ?_ | refine eQ q_ ?_ | refine eG q_ ?_); clear q_) | (have q_ := term_outer t; (with_reducible first | refine cK q_ ?_ | refine cQ q_ ?_ | refine cG q_ ?_); clear q_; (simp (disch := omega) only [push_cast, ↓zz, seval]); (fail_if_success (with_reducible change False))) | (have q_ := part_Whole 0; (with_reducible first | refine cK q_ ?_ | refine cQ q_ ?_ | refine cG q_ ?_); clear q_; (simp (disch := omega) only [push_cast, ↓zz, seval]); (fail_if_success (with_reducible change False))) | omega | (with_reducible intro _)))
  all_goals (simp [plainB, wholeB, Term.outer, *])
def smallB (x : Int) : Bool := decide (-1114111 ≤ x ∧ x ≤ 1114111)
theorem term_small (x : Int) : PC Try.prog 97 [.int .i64 x] (.bool (smallB x)) := by
  refine pc_w' c_term_small ?_
  unfold B_term_small
  (repeat' (first | (simp (disch := omega) only [push_cast, ↓zz, seval]) | (with_reducible refine And.intro ?_ ?_) | (with_reducible refine condW_split ?_ ?_ <;> intro hc <;> (try simp only [push_cast] at hc)) | (with_reducible refine guardW_split ?_ ?_ <;> intro hc <;> (try simp only [push_cast] at hc)) | omega | (with_reducible intro _)))
  all_goals (unfold smallB; first | (refine tt_dec ?_; omega) | (refine ff_dec ?_; omega) | (refine dec_dec ?_; omega))
def risesB : List Part → Bool
  | p :: q :: l => decide (p.up < q.up) && risesB (q :: l)
  | _ => true
theorem rises_at : ∀ {l : List Part} {i : Nat}, i + 1 < l.length → risesB (l.drop i) = (decide ((nth l i).up < (nth l (i + 1)).up) && risesB (l.drop (i + 1)))
  | [], i, h => by simp at h
  | [p], i, h => by simp at h
  | p :: q :: l, 0, _ => rfl
  | p :: q :: l, i + 1, h => by
    exact rises_at (l := q :: l) (i := i) (by simpa using h)
theorem rises_end {l : List Part} {i : Nat} (h : l.length ≤ i + 1) : risesB (l.drop i) = true := by
  match hl : l.drop i with
  | [] => rfl
  | [p] => rfl
  | p :: q :: r => have := congrArg List.length hl; simp at this; omega
theorem term_rising (l : List Part) (hl : l.length < 1000000000000) : PC Try.prog 98 [partsV l] (.bool (risesB l && decide (l.length ≤ 4))) := by
  refine pc_w' c_term_rising ?_
  unfold B_term_rising
  (repeat' (first | (simp (disch := omega) only [push_cast, ↓zz, seval]) | (with_reducible refine And.intro ?_ ?_) | (with_reducible refine condW_split ?_ ?_ <;> intro hc <;> (try simp only [push_cast] at hc)) | (with_reducible refine guardW_split ?_ ?_ <;> intro hc <;> (try simp only [push_cast] at hc)) | omega | (with_reducible intro _)))
  refine LoopK_T (T_loopR (fun (i : Nat) => i ≤ l.length ∧ risesB l = risesB (l.drop (i - 1))) (fun i => l.length - i) (fun i => [(0, partsV l), (5, partsV l), (6, .int .i64 l.length), (7, .int .i64 i)]) (fun _ => []) (fun _ _ => []) 0 (by simp) ?_ ?_)
  · (repeat' (first | (simp (disch := omega) only [push_cast, ↓zz, seval]) | (with_reducible refine And.intro ?_ ?_) | (with_reducible refine condW_split ?_ ?_ <;> intro hc <;> (try simp only [push_cast] at hc)) | (with_reducible refine guardW_split ?_ ?_ <;> intro hc <;> (try simp only [push_cast] at hc)) | omega | (with_reducible intro _)))
  rintro i ⟨hi, hr⟩
  refine W_T ?_
  (repeat' (first | (simp (disch := omega) only [push_cast, ↓zz, seval]) | (with_reducible refine And.intro ?_ ?_) | (with_reducible refine condW_split ?_ ?_ <;> intro hc <;> (try simp only [push_cast] at hc)) | (with_reducible refine guardW_split ?_ ?_ <;> intro hc <;> (try simp only [push_cast] at hc)) | omega | (with_reducible intro _)))
  · rename_i h1 h2
    rw [hr, rises_at (i := i - 1) (by omega), show i - 1 + 1 = i by omega]
    have : ¬ (nth l (i - 1)).up < (nth l i).up := by omega
    simp [this]
  · refine ⟨i + 1, ?_⟩
    (repeat' (first | (simp (disch := omega) only [push_cast, ↓zz, seval]) | (with_reducible refine And.intro ?_ ?_) | (with_reducible refine condW_split ?_ ?_ <;> intro hc <;> (try simp only [push_cast] at hc)) | (with_reducible refine guardW_split ?_ ?_ <;> intro hc <;> (try simp only [push_cast] at hc)) | omega | (with_reducible intro _)))
    rw [hr, rises_at (i := i - 1) (by omega), show i - 1 + 1 = i by omega]
    have : (nth l (i - 1)).up < (nth l i).up := by omega
    simp [this]
  · refine ⟨i + 1, ?_⟩
    (repeat' (first | (simp (disch := omega) only [push_cast, ↓zz, seval]) | (with_reducible refine And.intro ?_ ?_) | (with_reducible refine condW_split ?_ ?_ <;> intro hc <;> (try simp only [push_cast] at hc)) | (with_reducible refine guardW_split ?_ ?_ <;> intro hc <;> (try simp only [push_cast] at hc)) | omega | (with_reducible intro _)))
    obtain rfl : i = 0 := by omega
    exact hr
  · rw [hr, rises_end (i := i - 1) (by omega), Bool.true_and]
    exact dec_dec (by omega)
def numbersB (t : Term) : Bool := smallB t.base && smallB t.sum && bitsB t.outer && (risesB t.parts && decide (t.parts.length ≤ 4))
theorem outer_right (t : Term) : rightB t.outer 1 = bitsB t.outer := by simp [rightB]
theorem part_Right1 (t : Term) : PC Try.prog 78 [partV t.outer, .int .i64 1] (.bool (bitsB t.outer)) := by rw [← outer_right]; exact part_Right t.outer 1
theorem term_numbers (t : Term) (hl : t.parts.length < 1000000000000) : PC Try.prog 77 [termV t] (.bool (numbersB t)) := by
  refine pc_w' c_term_numbers ?_
  unfold B_term_numbers
  (repeat' (first | (simp (disch := omega) only [push_cast, ↓zz, seval]) | (with_reducible refine And.intro ?_ ?_) | (with_reducible refine condW_split ?_ ?_ <;> intro hc <;> (try simp only [push_cast] at hc)) | (with_reducible refine guardW_split ?_ ?_ <;> intro hc <;> (try simp only [push_cast] at hc)) | (have q_ := term_small t.base; (with_reducible first | refine eK q_ ?_ | refine eQ q_ ?_ | refine eG q_ ?_); clear q_) | (have q_ := term_small t.sum; (with_reducible first | refine eK q_ ?_ | refine eQ q_ ?_ | refine eG q_ ?_); clear q_) | (have q_ := term_outer t; (with_reducible first | refine eK q_ ?_ | refine eQ q_ ?_ | refine eG q_ ?_); clear q_) | (have q_ := part_Right1 t; (with_reducible first | refine eK q_ ?_ | refine eQ q_ ?_ | refine eG q_ ?_); clear q_) | (have q_ := term_rising t.parts hl; (with_reducible first | refine eK q_ ?_ | refine eQ q_ ?_ | refine eG q_ ?_); clear q_) | (have q_ := term_small t.base; (with_reducible first | refine cK q_ ?_ | refine cQ q_ ?_ | refine cG q_ ?_); clear q_; (simp (disch := omega) only [push_cast, ↓zz, seval]); (fail_if_success (with_reducible change False))) | (have q_ := term_small t.sum; (with_reducible first | refine cK q_ ?_ | refine cQ q_ ?_ | refine cG q_ ?_); clear q_; (simp (disch := omega) only [push_cast, ↓zz, seval]); (fail_if_success (with_reducible change False))) | (have q_ := term_outer t; (with_reducible first | refine cK q_ ?_ | refine cQ q_ ?_ | refine cG q_ ?_); clear q_; (simp (disch := omega) only [push_cast, ↓zz, seval]); (fail_if_success (with_reducible change False))) | (have q_ := part_Right1 t; (with_reducible first | refine cK q_ ?_ | refine cQ q_ ?_ | refine cG q_ ?_); clear q_; (simp (disch := omega) only [push_cast, ↓zz, seval]); (fail_if_success (with_reducible change False))) | (have q_ := term_rising t.parts hl; (with_reducible first | refine cK q_ ?_ | refine cQ q_ ?_ | refine cG q_ ?_); clear q_; (simp (disch := omega) only [push_cast, ↓zz, seval]); (fail_if_success (with_reducible change False))) | omega | (with_reducible intro _)))
  all_goals (simp [numbersB, *])
def sortB (s : Int) : Bool := decide (s = 1 ∨ s = 2)
def rightsB (i n : Int) (l : List Part) : Bool := l.all fun p => rightB p n && (decide (i ≠ 2) || wholeB p)
def rightT (t : Term) (i o n : Int) : Bool := sortB i && sortB o && numbersB t && rightsB i n t.parts && (decide (i ≠ 2) || decide (t.parts.length ≤ 1)) && (decide (o ≠ 2) || plainB t)
theorem dom_nil (s : Int) : decide (((domL s).length : Int) = 0) = !sortB s := by
  unfold domL sortB
  split
  · subst_vars; decide
  · split
    · subst_vars; decide
    · simp [*]
theorem le_one (l : List Part) : (l.length ≤ 1) = ((l.length : Int) ≤ 1) := by simp only [eq_iff_iff]; omega
theorem term_Right (t : Term) (i o n : Int) (hl : t.parts.length < 1000000000000) : PC Try.prog 67 [termV t, .int .i64 i, .int .i64 o, .int .i64 n] (.bool (rightT t i o n)) := by
  refine pc_w' c_term_Right ?_
  unfold B_term_Right
  (repeat' (first | (simp (disch := omega) only [push_cast, ↓zz, seval, dom_nil]) | (with_reducible refine And.intro ?_ ?_) | (with_reducible refine condW_split ?_ ?_ <;> intro hc <;> (try simp only [push_cast] at hc)) | (with_reducible refine guardW_split ?_ ?_ <;> intro hc <;> (try simp only [push_cast] at hc)) | (have q_ := word_Domain i; (with_reducible first | refine eK q_ ?_ | refine eQ q_ ?_ | refine eG q_ ?_); clear q_) | (have q_ := word_Domain o; (with_reducible first | refine eK q_ ?_ | refine eQ q_ ?_ | refine eG q_ ?_); clear q_) | (have q_ := term_numbers t hl; (with_reducible first | refine eK q_ ?_ | refine eQ q_ ?_ | refine eG q_ ?_); clear q_) | (have q_ := word_Domain i; (with_reducible first | refine cK q_ ?_ | refine cQ q_ ?_ | refine cG q_ ?_); clear q_; (simp (disch := omega) only [push_cast, ↓zz, seval, dom_nil]); (fail_if_success (with_reducible change False))) | (have q_ := word_Domain o; (with_reducible first | refine cK q_ ?_ | refine cQ q_ ?_ | refine cG q_ ?_); clear q_; (simp (disch := omega) only [push_cast, ↓zz, seval, dom_nil]); (fail_if_success (with_reducible change False))) | (have q_ := term_numbers t hl; (with_reducible first | refine cK q_ ?_ | refine cQ q_ ?_ | refine cG q_ ?_); clear q_; (simp (disch := omega) only [push_cast, ↓zz, seval, dom_nil]); (fail_if_success (with_reducible change False))) | omega | (with_reducible intro _)))
  · simp [rightT, *]
  · have hn : rightT t i o n = (rightsB i n t.parts && (decide (i ≠ 2) || decide ((t.parts.length : Int) ≤ 1)) && (decide (o ≠ 2) || plainB t)) := by simp [rightT, le_one, *]
    rw [hn]
    refine LoopK_T (T_loopR (fun (k : Nat) => k ≤ t.parts.length ∧ rightsB i n t.parts = rightsB i n (t.parts.drop k)) (fun k => t.parts.length - k) (fun k => [(1, .int .i64 i), (2, .int .i64 o), (3, .int .i64 n), (4, .ptr 0 1 0 0), (27, partsV t.parts), (28, .int .i64 t.parts.length), (29, .int .i64 k)]) (fun _ => [⟨6, 1, true, [termV t]⟩]) (fun env _ => [srcOf 0 (env 4)]) 0 (by simp) ?_ ?_)
    · (repeat' (first | (simp (disch := omega) only [push_cast, ↓zz, seval]) | (with_reducible refine And.intro ?_ ?_) | (with_reducible refine condW_split ?_ ?_ <;> intro hc <;> (try simp only [push_cast] at hc)) | (with_reducible refine guardW_split ?_ ?_ <;> intro hc <;> (try simp only [push_cast] at hc)) | omega | (with_reducible intro _)))
    rintro k ⟨hi, hr⟩
    refine W_T ?_
    (repeat' (first | (simp (disch := omega) only [push_cast, ↓zz, seval]) | (with_reducible refine And.intro ?_ ?_) | (with_reducible refine condW_split ?_ ?_ <;> intro hc <;> (try simp only [push_cast] at hc)) | (with_reducible refine guardW_split ?_ ?_ <;> intro hc <;> (try simp only [push_cast] at hc)) | (have q_ := part_Right (nth t.parts k) n; (with_reducible first | refine eK q_ ?_ | refine eQ q_ ?_ | refine eG q_ ?_); clear q_) | (have q_ := part_Whole (nth t.parts k).at_; (with_reducible first | refine eK q_ ?_ | refine eQ q_ ?_ | refine eG q_ ?_); clear q_) | (have q_ := term_plain t; (with_reducible first | refine eK q_ ?_ | refine eQ q_ ?_ | refine eG q_ ?_); clear q_) | (have q_ := part_Right (nth t.parts k) n; (with_reducible first | refine cK q_ ?_ | refine cQ q_ ?_ | refine cG q_ ?_); clear q_; (simp (disch := omega) only [push_cast, ↓zz, seval]); (fail_if_success (with_reducible change False))) | (have q_ := part_Whole (nth t.parts k).at_; (with_reducible first | refine cK q_ ?_ | refine cQ q_ ?_ | refine cG q_ ?_); clear q_; (simp (disch := omega) only [push_cast, ↓zz, seval]); (fail_if_success (with_reducible change False))) | (have q_ := term_plain t; (with_reducible first | refine cK q_ ?_ | refine cQ q_ ?_ | refine cG q_ ?_); clear q_; (simp (disch := omega) only [push_cast, ↓zz, seval]); (fail_if_success (with_reducible change False))) | omega | (with_reducible intro _)))
    all_goals (first | (refine ⟨k + 1, ?_⟩; (repeat' (first | (simp (disch := omega) only [push_cast, ↓zz, seval]) | (with_reducible refine And.intro ?_ ?_) | (with_reducible refine condW_split ?_ ?_ <;> intro hc <;> (try simp only [push_cast] at hc)) | (with_reducible refine guardW_split ?_ ?_ <;> intro hc <;> (try simp only [push_cast] at hc)) | omega | (with_reducible intro _))); (try (first | (rw [hr, drop_at (by omega)]; simp [rightsB, wholeB, *]; done) | (rw [hr, List.drop_of_length_le (by omega)]; simp [rightsB, wholeB, *]; done) | (simp [rightsB, wholeB, *]; done))); done) | (first | (rw [hr, drop_at (by omega)]; simp [rightsB, wholeB, *]; done) | (rw [hr, List.drop_of_length_le (by omega)]; simp [rightsB, wholeB, *]; done) | (simp [rightsB, wholeB, *]; done)))
  all_goals (simp [rightT, *])
end Go.Proofs.Yticodgjinajkpaa
set_option linter.unusedSimpArgs false
set_option linter.unusedVariables false
namespace Go.Proofs.Yticodgjinajkpaa
open Abs
theorem clone_parts (l : List Part) (hl : l.length ≤ 1000000000000) : PC Try.prog 65 [partsV l] (partsV l) := by
  by_cases h0 : l = []
  · subst h0
    refine pc_nil ?_ ?_
    · refine pc_w' c_slices_Clone_api_Part_api_Part ?_
      unfold B_slices_Clone_api_Part_api_Part
      (repeat' (first | (simp (disch := omega) only [push_cast, ↓zz, seval]) | (with_reducible refine And.intro ?_ ?_) | (with_reducible refine condW_split ?_ ?_ <;> intro hc <;> (try simp only [push_cast] at hc)) | (with_reducible refine guardW_split ?_ ?_ <;> intro hc <;> (try simp only [push_cast] at hc)) | omega | (with_reducible intro _)))
    · refine pc_w' c_slices_Clone_api_Part_api_Part ?_
      unfold B_slices_Clone_api_Part_api_Part
      (repeat' (first | (simp (disch := omega) only [push_cast, ↓zz, seval]) | (with_reducible refine And.intro ?_ ?_) | (with_reducible refine condW_split ?_ ?_ <;> intro hc <;> (try simp only [push_cast] at hc)) | (with_reducible refine guardW_split ?_ ?_ <;> intro hc <;> (try simp only [push_cast] at hc)) | omega | (with_reducible intro _)))
  · refine pc_w' c_slices_Clone_api_Part_api_Part ?_
    unfold B_slices_Clone_api_Part_api_Part
    (repeat' (first | (simp (disch := omega) only [push_cast, ↓zz, seval, h0]) | (with_reducible refine And.intro ?_ ?_) | (with_reducible refine condW_split ?_ ?_ <;> intro hc <;> (try simp only [push_cast] at hc)) | (with_reducible refine guardW_split ?_ ?_ <;> intro hc <;> (try simp only [push_cast] at hc)) | omega | (with_reducible intro _)))
theorem term_Copy (a x : Int) : PC Try.prog 38 [.int .i64 a, .int .i64 x] (termV ⟨0, 0, 21, 0, x, [⟨a, 0, 21, 0⟩]⟩) := by
  refine pc_w' c_term_Copy ?_
  unfold B_term_Copy
  (repeat' (first | (simp (disch := omega) only [push_cast, ↓zz, seval]) | (with_reducible refine And.intro ?_ ?_) | (with_reducible refine condW_split ?_ ?_ <;> intro hc <;> (try simp only [push_cast] at hc)) | (with_reducible refine guardW_split ?_ ?_ <;> intro hc <;> (try simp only [push_cast] at hc)) | (have q_ := part_Whole a; (with_reducible first | refine eK q_ ?_ | refine eQ q_ ?_ | refine eG q_ ?_); clear q_) | (have q_ := part_Whole a; (with_reducible first | refine cK q_ ?_ | refine cQ q_ ?_ | refine cG q_ ?_); clear q_; (simp (disch := omega) only [push_cast, ↓zz, seval]); (fail_if_success (with_reducible change False))) | omega | (with_reducible intro _)))
  all_goals trace_state
def sumP (w : List Int) : List Part → Int → Option Int
  | [], a => some a
  | p :: l, a => if rightB p w.length then sumP w l (IntKind.i64.wrap (a + val1 p (nth w p.at_.toNat))) else none
def symB (x : Int) : Bool := decide (0 ≤ x ∧ x ≤ 1114111)
def valueT (t : Term) (w : List Int) : Option Int :=
  if w.all symB then
    match sumP w t.parts t.sum with
    | some x => if valB t.outer x && decide (x ≤ 1114111) then some (IntKind.i64.wrap (t.base + valP t.outer x)) else none
    | none => none
  else none
theorem right_at {p : Part} {n : Int} (h : rightB p n = true) : 0 ≤ p.at_ ∧ p.at_ < n := by
  simp only [rightB, Bool.and_eq_true, decide_eq_true_eq] at h
  exact h.1
end Go.Proofs.Yticodgjinajkpaa
set_option linter.unusedSimpArgs false
set_option linter.unusedVariables false
namespace Go.Proofs.Yticodgjinajkpaa
open Abs
theorem small_iff {x : Int} : smallB x = true ↔ -1114111 ≤ x ∧ x ≤ 1114111 := by simp [smallB]
theorem small_bd {x : Int} (h : smallB x = true) : -1114111 ≤ x ∧ x ≤ 1114111 := small_iff.1 h
end Go.Proofs.Yticodgjinajkpaa
set_option linter.unusedSimpArgs false
set_option linter.unusedVariables false
namespace Go.Proofs.Yticodgjinajkpaa
open Abs
end Go.Proofs.Yticodgjinajkpaa
set_option linter.unusedSimpArgs false
set_option linter.unusedVariables false
namespace Go.Proofs.Yticodgjinajkpaa
open Abs
end Go.Proofs.Yticodgjinajkpaa
set_option linter.unusedSimpArgs false
set_option linter.unusedVariables false
namespace Go.Proofs.Yticodgjinajkpaa
open Abs
abbrev wr (n : Int) : Int := IntKind.i64.wrap n
theorem wr_eq (n : Int) : wr n = (n + 9223372036854775808) % 18446744073709551616 - 9223372036854775808 := by
  show IntKind.i64.wrap n = _
  rw [IntWalk.i64_left]
  unfold RowKit.wrap64
  rfl
theorem wr_in {n : Int} (h : -9223372036854775808 ≤ n ∧ n ≤ 9223372036854775807) : wr n = n := by rw [wr_eq]; omega
theorem wr_wr (a b : Int) : wr (wr a + b) = wr (a + b) := by rw [wr_eq, wr_eq a, wr_eq (a + b)]; omega
theorem wr_bd (a : Int) : -9223372036854775808 ≤ wr a ∧ wr a ≤ 9223372036854775807 := by rw [wr_eq]; omega
def totP (w : List Int) : List Part → Int
  | [] => 0
  | p :: l => val1 p (nth w p.at_.toNat) + totP w l
def rightsL (w : List Int) (l : List Part) : Bool := l.all fun p => rightB p w.length
theorem sum_tot (w : List Int) : ∀ (l : List Part) (a : Int), wr a = a → sumP w l a = if rightsL w l then some (wr (a + totP w l)) else none
  | [], a, h => by simp [sumP, rightsL, totP, h]
  | p :: l, a, h => by
    rw [sumP]
    cases hp : rightB p w.length
    · simp [rightsL, hp]
    · have ih := sum_tot w l (wr (a + val1 p (nth w p.at_.toNat))) (by rw [wr_in (wr_bd _)])
      rw [if_pos rfl]
      have e : wr (wr (a + val1 p (nth w p.at_.toNat)) + totP w l) = wr (a + totP w (p :: l)) := by rw [wr_wr, totP]; congr 1; omega
      rw [e] at ih
      simp only [rightsL, List.all_cons, hp, Bool.true_and] at ih ⊢
      exact ih
theorem whole_val {p : Part} {x : Int} (h : wholeB p = true) (hx : 0 ≤ x ∧ x ≤ 2097151) : bitsB p = true ∧ valB p x = true ∧ valP p x = x := by
  simp only [wholeB, decide_eq_true_eq] at h
  obtain ⟨h1, h2, h3⟩ := h
  have hb : bitsB p = true := by simp [bitsB, h1, h2, h3]
  refine ⟨hb, (val_yes hb hx).1, ?_⟩
  rw [valP, h1, h2, h3]
  show x / 2 ^ 0 % 2 ^ 21 * 2 ^ 0 = x
  omega
end Go.Proofs.Yticodgjinajkpaa
set_option linter.unusedSimpArgs false
set_option linter.unusedVariables false
namespace Go.Proofs.Yticodgjinajkpaa
open Abs Go.RowKit
theorem wf_u8 {n : Int} (h : (Lit.int .u8 n).wf = true) : 0 ≤ n ∧ n ≤ 255 := by
  simpa [Lit.wf, IntKind.min, IntKind.max, IntKind.signed, IntKind.bits] using h
theorem is_list {α : Type} {agg : Bool} {fs : List Sh} {x : AV} (f : α → AV) (Q : α → Prop) (hp : ∀ l : List α, pureL (l.map f) = true) (hpos : 0 < fs.length)
    (he : ∀ cs, IsL fs cs → ∃ a, AV.le (if agg then .agg cs else cs.headD .any) (f a) ∧ Q a) (h : Is (.sl agg fs) x) : ∃ l : List α, AV.le x (.lst fs.length (l.map f)) ∧ l.length ≤ maxLen ∧ ∀ a ∈ l, Q a := by
  rcases h with rfl | ⟨xs, rfl, hl, hx⟩
  · exact ⟨[], AV.le_nilS hpos, Nat.zero_le _, fun _ h => by cases h⟩
  · have key : ∀ xs : List AV, (∀ y ∈ xs, ∃ cs, y = (if agg then AV.agg cs else cs.headD .any) ∧ IsL fs cs) → ∃ l : List α, l.length = xs.length ∧ leL xs (l.map f) ∧ ∀ a ∈ l, Q a := by
      intro xs
      induction xs with
      | nil => intro _; exact ⟨[], rfl, leL_nil, fun _ h => by cases h⟩
      | cons y r ih =>
        intro hy
        obtain ⟨l, h1, h2, h3⟩ := ih fun z hz => hy z (List.mem_cons_of_mem _ hz)
        obtain ⟨cs, rfl, hcs⟩ := hy y (List.mem_cons_self ..)
        obtain ⟨a, h4, h5⟩ := he cs hcs
        refine ⟨a :: l, by simp [h1], leL_cons h4 h2, fun b hb => ?_⟩
        rcases List.mem_cons.1 hb with rfl | hb
        · exact h5
        · exact h3 b hb
    obtain ⟨l, h1, h2, h3⟩ := key xs hx
    exact ⟨l, AV.le_lst (by simp [h1]) (hp l) h2, by rw [h1]; exact hl, h3⟩
end Go.Proofs.Yticodgjinajkpaa
set_option linter.unusedSimpArgs false
set_option linter.unusedVariables false
namespace Go.Proofs.Yticodgjinajkpaa
open Abs
end Go.Proofs.Yticodgjinajkpaa
set_option linter.unusedSimpArgs false
set_option linter.unusedVariables false
namespace Go.Proofs.Yticodgjinajkpaa
open Abs
theorem some_get {o : Option Int} (h : o.isSome = true) : o = some (o.getD 0) := by cases o <;> simp_all
end Go.Proofs.Yticodgjinajkpaa
namespace Go.Proofs.Yticodgjinajkpaa.Abs
section
variable {P : Program} {n b : Nat} {Q : Ex → Env → AHeap → Prop}
def Rounds (P : Program) (n b : Nat) (c : AC) (Q : Ex → Env → AHeap → Prop) : Nat → Env → AHeap → Prop
  | 0, _, _ => False
  | m + 1, env, H => T P n b c env H (Ex.then (Rounds P n b c Q m) Q)
theorem rounds_in {c : AC} {d : Code} (hd : compC P n d = some c) {rd : Option Nat} {mm : Nat} (hrd : c.free = true ∨ rd = none) {S0 : MS} : ∀ (m : Nat) (env : Env) (H : AHeap) (S : MS) (a : Act), BEvo b S0 S → SRel S H → FRel S n env a → Rounds P n b c Q m env H →
    Code.roundsIn (fen rd) mm P d (After S0 n b Q) m a S.w
  | 0, _, _, _, _, _, _, _, h => h.elim
  | m + 1, env, H, S, a, e0, hS, hF, h => by
    rw [Code.roundsIn]
    refine wpIn_mono (h rd mm hrd d hd S a e0.n hS hF) fun e a' w' hh => ?_
    obtain ⟨S2, env2, H2, z, rfl, e2, hS2, hF2, rfl, hq⟩ := hh
    cases z with
    | normal => exact rounds_in hd hrd m env2 H2 S2 a' (e0.trans e2) hS2 hF2 hq
    | exit id => exact ⟨S2, env2, H2, .exit id, rfl, e0.trans e2, hS2, hF2, rfl, hq⟩
    | ret => exact ⟨S2, env2, H2, .ret, rfl, e0.trans e2, hS2, hF2, rfl, hq⟩
theorem T_rounds {c : AC} {env : Env} {H : AHeap} (m : Nat) (h : Rounds P n b c Q m env H) : T P n b (.loop c) env H Q := T_of fun rd mm hrd code hc hs S a hb hS hF => by
  cases code <;> simp only [compC, reduceCtorEq, Option.some.injEq] at hc
  case loop d =>
    obtain ⟨x, hx, hh⟩ := Option.map_eq_some_iff.1 hc
    cases hh
    exact wpIn_loop_rounds m (rounds_in hx hrd m env H S a (.refl hb) hS hF h)
  case region => exact absurd hc compReg_ne
  case seq => split at hc <;> cases hc
  case cond => split at hc <;> cases hc
  case block => obtain ⟨_, _, h⟩ := Option.map_eq_some_iff.1 hc; cases h
  case rangeFunc => split at hc <;> cases hc
  case scope d => exact absurd rfl (hs d)
theorem LoopK_rounds {c : AC} {env : Env} {H : AHeap} (m : Nat) (h : W P n b c env H (Ex.then (Rounds P n b c Q m) Q)) : @LoopK ⟨T P n b (.loop c) env H Q⟩ := T_rounds (m + 1) (W_T h)
theorem LoopK_head {c : AC} {env : Env} {H : AHeap} (m : Nat) (srcs : Env → List Src) (live : List (Nat × AV)) (heap : List Grp) (he : Head b env H (srcs env) live heap) (h : W P n b c (mkEnv live) (hl heap) (Ex.then (Rounds P n b c Q m) Q)) : @LoopK ⟨T P n b (.loop c) env H Q⟩ := T_head he (T_rounds (m + 1) (W_T h))
theorem Rounds_next {c : AC} {env : Env} {H : AHeap} {m : Nat} (h : W P n b c env H (Ex.then (Rounds P n b c Q m) Q)) : Rounds P n b c Q (m + 1) env H := W_T h
end
theorem vs_split {S : MS} : ∀ {xs ys : List AV} {vs : List Value}, VsRel S (xs ++ ys) vs → ∃ v1 v2, vs = v1 ++ v2 ∧ VsRel S xs v1
  | [], ys, vs, h => ⟨[], vs, rfl, rfl⟩
  | x :: xs, ys, vs, h => by
    obtain ⟨v, r, rfl, h1, h2⟩ := h
    obtain ⟨v1, v2, rfl, h3⟩ := vs_split (xs := xs) (ys := ys) h2
    exact ⟨v :: v1, v2, rfl, v, v1, rfl, h1, h3⟩
theorem srel_trunc {S : MS} {w v : Nat} {ex : Bool} {xs ys : List AV} (hw : 0 < w) (hS : SRel S (hl [⟨w, v, ex, xs ++ ys⟩])) : SRel S (hl [⟨w, v, false, xs⟩]) := by
  have h0 : GRel S ⟨w, v, ex, xs ++ ys⟩ 0 := hS.grp 0 (by show 0 < 1; omega)
  have hg : GRel S ⟨w, v, false, xs⟩ 0 := by
    refine ⟨h0.ver, h0.wid, fun _ hc => ?_, fun _ => ?_, fun _ h => (by cases h), fun h => ?_⟩
    · obtain ⟨⟨cells, TT, vs, a1, a2, a3, a4⟩, a5⟩ := h0.live hw hc
      obtain ⟨v1, v2, rfl, h1⟩ := vs_split a3
      refine ⟨⟨cells, TT, v1, a1, a2, h1, fun i u hu => a4 i u ?_⟩, a5⟩
      obtain ⟨hl1, _⟩ := List.getElem?_eq_some_iff.1 hu
      rw [List.getElem?_append_left hl1]; exact hu
    · have := h0.len hw
      simp only [List.length_append] at this
      show xs.length ≤ _
      omega
    · simp only at h; omega
  refine ⟨hS.n, fun g hg' => ?_, fun g g' a c hne => ?_, hS.im⟩
  · have hz : g < 1 := hg'
    obtain rfl : g = 0 := by omega
    exact hg
  · have a' : g < 1 := a
    have c' : g' < 1 := c
    omega
theorem acalls_trunc {P : Program} {f : Nat} {args : List AV} {H : AHeap} {w v : Nat} {ex : Bool} {xs : List AV} {y0 : AV} (hw : 0 < w) (h : ACalls P f args H fun y H' => ∃ ys, y = y0 ∧ H' = hl [⟨w, v, ex, xs ++ ys⟩]) : ACalls P f args H fun y H' => y = y0 ∧ H' = hl [⟨w, v, false, xs⟩] :=
  ⟨h.1, fun S cargs hS hx => (h.2 S cargs hS hx).mono fun e w' hh => by
    obtain ⟨v, S1, y, H', he, hw', ev, hS1, hv, ys, rfl, rfl⟩ := hh
    exact ⟨v, S1, _, _, he, hw', ev, srel_trunc hw hS1, hv, rfl, rfl⟩⟩
theorem at_give {P : Program} {f : Nat} {xs ys : List AV} {l : List Grp} {K : AV → AHeap → Prop} (h1 : okA 4 ((hl l).only (grpsOf xs)) xs) (h2 : leSL [] (frA 4 ((hl l).only (grpsOf xs)) xs) ys) (h3 : @CallK P f ys (hl (killL 0 (grpsOf xs) l)) ⟨K⟩) : @CallK P f xs (hl l) ⟨K⟩ :=
  acalls_frz 4 (grpsOf xs) (okA_mem h1) (acalls_le (leSL_le h2) h3)
def SameBut (i : Nat) (ks : List Nat) : List Grp → List Grp → Prop
  | [], _ => True
  | _ :: _, [] => False
  | G :: l, G' :: l' => (i ∈ ks ∨ G = G') ∧ SameBut (i + 1) ks l l'
theorem SameBut.of {ks : List Nat} : ∀ {i : Nat} {l l' : List Grp}, SameBut i ks l l' → l.length ≤ l'.length ∧ ∀ g, i + g ∉ ks → g < l.length → l'.getD g default = l.getD g default
  | _, [], _, _ => ⟨by simp, fun g _ h => absurd h (by simp)⟩
  | _, _ :: _, [], h => h.elim
  | i, G :: l, G' :: l', h => by
    obtain ⟨h1, h2⟩ := SameBut.of h.2
    refine ⟨by simpa using h1, fun g hg hl => ?_⟩
    cases g with
    | zero =>
      rcases h.1 with h3 | h3
      · exact absurd h3 hg
      · simp [h3]
    | succ g =>
      have := h2 g (by rwa [show i + 1 + g = i + (g + 1) by omega]) (by simpa using hl)
      simpa using this
def effB (ks : List Nat) : AK → List Grp → List Grp → Prop
  | .app .., l, l' => SameBut 0 ks l l'
  | .mkMap, l, l' => SameBut 0 ks l l'
  | .mapSet, l, l' => SameBut 0 ks l l'
  | _, _, _ => True
theorem effB_of {ks : List Nat} {k : AK} {l l' : List Grp} (h : effB ks k l l') (h2 : k.eff = some 2) : l.length ≤ l'.length ∧ ∀ g, g ∉ ks → g < l.length → l'.getD g default = l.getD g default := by
  have key : SameBut 0 ks l l' := by cases k <;> first | exact h | (simp [AK.eff] at h2)
  obtain ⟨a, c⟩ := key.of
  exact ⟨a, fun g hg => c g (by simpa using hg)⟩
def xk (P : Program) (ks : List Nat) : List Bool → List AOp → Env → List Grp → (Env → List Grp → Prop) → Prop
  | _, [], env, l, K => K env l
  | fl, ⟨dst, args, none, k⟩ :: r, env, l, K => (fl.headD false = true → onRefs (· ∉ ks) (args.map (·.eval env))) ∧ @opG P k l (args.map (·.eval env)) ⟨fun x l' => effB ks k l l' ∧ xk P ks fl.tail r (env.put dst x) l' K⟩
  | fl, ⟨dst, args, some (d, want), k⟩ :: r, env, l, K => @guardW (env d) want
      ⟨(fl.headD false = true → onRefs (· ∉ ks) (args.map (·.eval (env.put (some d) (.bool want))))) ∧ @opG P k l (args.map (·.eval (env.put (some d) (.bool want)))) ⟨fun x l' => effB ks k l l' ∧ xk P ks fl.tail r ((env.put (some d) (.bool want)).put dst x) l' K⟩⟩
      ⟨xk P ks fl.tail r ((env.put (some d) (.bool (!want))).put dst (.tup [])) l K⟩ ⟨xk P ks fl.tail r (env.put dst (.tup [])) l K⟩
theorem xk_run (P : Program) (ks : List Nat) : ∀ (L : List AOp) (fl : List Bool) (env : Env) (l : List Grp) {K : Env → List Grp → Prop}, xk P ks fl L env l K → runX P ks fl L env l K
  | [], _, _, _, _, h => h
  | ⟨dst, args, none, k⟩ :: r, fl, env, l, K, h => by
    obtain ⟨h0, h'⟩ := h
    have := opG_run h'
    simp only [runX, guardK, AOp.vals, if_true]
    split at this
    · rename_i he
      rw [if_pos he]
      obtain ⟨x, h1, h2⟩ := this
      exact ⟨h0, x, h1, xk_run P ks r _ _ _ h2.2⟩
    · rename_i he
      rw [if_neg he]
      obtain ⟨x, l', b1, b2, b3⟩ := this
      exact ⟨x, l', b1, b2, effB_of b3.1, h0, xk_run P ks r _ _ _ b3.2⟩
  | ⟨dst, args, some (d, want), k⟩ :: r, fl, env, l, K, h => by
    have h' : guardV (env d) want ((fl.headD false = true → onRefs (· ∉ ks) (args.map (·.eval (env.put (some d) (.bool want))))) ∧ @opG P k l (args.map (·.eval (env.put (some d) (.bool want)))) ⟨fun x l' => effB ks k l l' ∧ xk P ks fl.tail r ((env.put (some d) (.bool want)).put dst x) l' K⟩)
      (xk P ks fl.tail r ((env.put (some d) (.bool (!want))).put dst (.tup [])) l K) (xk P ks fl.tail r (env.put dst (.tup [])) l K) := h
    simp only [runX, guardK, AOp.vals, if_true, Bool.false_eq_true, if_false]
    refine guardV_mono (fun h1 => ?_) (fun h1 => xk_run P ks r _ _ _ h1) (fun h1 => xk_run P ks r _ _ _ h1) h'
    obtain ⟨h0, h1⟩ := h1
    have := opG_run h1
    split at this
    · rename_i he
      obtain ⟨x, h1, h2⟩ := this
      rw [if_pos he]
      exact ⟨h0, x, h1, xk_run P ks r _ _ _ h2.2⟩
    · rename_i he
      rw [if_neg he]
      obtain ⟨x, l', b1, b2, b3⟩ := this
      exact ⟨x, l', b1, b2, effB_of b3.1, h0, xk_run P ks r _ _ _ b3.2⟩
section
variable {P : Program} {n b : Nat} {Q : Ex → Env → AHeap → Prop} {ks : List Nat} {env : Env} {l : List Grp} {K : Env → List Grp → Prop} {fl : List Bool} {r : List AOp} {dst : Option Nat} {args : List AArg} {k : AK}
theorem LoopK_X {L : List AOp} (ks : List Nat) (h : xk P ks fl L env l fun env' l' => Q .normal env' (hl l')) : @LoopK ⟨T P n b (.grx fl L) env (hl l) Q⟩ := T_grx ks (xk_run P ks L fl env l h)
theorem guardW_congr {x : AV} {w : Bool} {p p2 q s : HP} (h : p.p = p2.p) : @guardW x w p q s = @guardW x w p2 q s := by cases p; cases p2; cases h; rfl
theorem xk1 : xk P ks fl [] env l K = K env l := by cases fl <;> rfl
theorem xk2 : xk P ks (false :: fl) (⟨dst, args, none, k⟩ :: r) env l K = @opG P k l (args.map (·.eval env)) ⟨fun x l' => effB ks k l l' ∧ xk P ks fl r (env.put dst x) l' K⟩ := propext ⟨fun h => h.2, fun h => ⟨fun h0 => (by cases h0), h⟩⟩
theorem xk3 : xk P ks (true :: fl) (⟨dst, args, none, k⟩ :: r) env l K = (onRefs (· ∉ ks) (args.map (·.eval env)) ∧ @opG P k l (args.map (·.eval env)) ⟨fun x l' => effB ks k l l' ∧ xk P ks fl r (env.put dst x) l' K⟩) := propext ⟨fun h => ⟨h.1 rfl, h.2⟩, fun h => ⟨fun _ => h.1, h.2⟩⟩
theorem xk4 {d : Nat} {want : Bool} : xk P ks (false :: fl) (⟨dst, args, some (d, want), k⟩ :: r) env l K = @guardW (env d) want
      ⟨@opG P k l (args.map (·.eval (env.put (some d) (.bool want)))) ⟨fun x l' => effB ks k l l' ∧ xk P ks fl r ((env.put (some d) (.bool want)).put dst x) l' K⟩⟩
      ⟨xk P ks fl r ((env.put (some d) (.bool (!want))).put dst (.tup [])) l K⟩ ⟨xk P ks fl r (env.put dst (.tup [])) l K⟩ := guardW_congr (propext ⟨fun h => h.2, fun h => ⟨fun h0 => (by cases h0), h⟩⟩)
theorem xk5 {d : Nat} {want : Bool} : xk P ks (true :: fl) (⟨dst, args, some (d, want), k⟩ :: r) env l K = @guardW (env d) want
      ⟨onRefs (· ∉ ks) (args.map (·.eval (env.put (some d) (.bool want)))) ∧ @opG P k l (args.map (·.eval (env.put (some d) (.bool want)))) ⟨fun x l' => effB ks k l l' ∧ xk P ks fl r ((env.put (some d) (.bool want)).put dst x) l' K⟩⟩
      ⟨xk P ks fl r ((env.put (some d) (.bool (!want))).put dst (.tup [])) l K⟩ ⟨xk P ks fl r (env.put dst (.tup [])) l K⟩ := guardW_congr (propext ⟨fun h => ⟨h.1 rfl, h.2⟩, fun h => ⟨fun _ => h.1, h.2⟩⟩)
variable {l2 : List Grp}
theorem xk6 {w s : Nat} {z : AV} : effB ks (.app w s z) l l2 = SameBut 0 ks l l2 := rfl
theorem xk7 : effB ks .mapSet l l2 = SameBut 0 ks l l2 := rfl
theorem xk8 : effB ks .mkMap l l2 = SameBut 0 ks l l2 := rfl
theorem xe_mv  : effB ks (.mv ) l l2 = True := rfl
theorem xe_pick  : effB ks (.pick ) l l2 = True := rfl
theorem xe_alloc {a0 : AV} {a1 : Nat} : effB ks (.alloc a0 a1) l l2 = True := rfl
theorem xe_box  : effB ks (.box ) l l2 = True := rfl
theorem xe_build {a0 : List AV} {a1 : List (Nat × Nat)} {a2 : List Nat} : effB ks (.build a0 a1 a2) l l2 = True := rfl
theorem xe_bslice {a0 : Nat} {a1 : Nat} {a2 : AV} {a3 : List Nat} : effB ks (.bslice a0 a1 a2 a3) l l2 = True := rfl
theorem xe_load {a0 : Bool} {a1 : Nat} : effB ks (.load a0 a1) l l2 = True := rfl
theorem xe_store {a0 : Nat} : effB ks (.store a0) l l2 = True := rfl
theorem xe_nilCheck  : effB ks (.nilCheck ) l l2 = True := rfl
theorem xe_bin {a0 : BinOp} : effB ks (.bin a0) l l2 = True := rfl
theorem xe_eqb {a0 : Bool} : effB ks (.eqb a0) l l2 = True := rfl
theorem xe_eqs {a0 : Bool} {a1 : List Nat} : effB ks (.eqs a0 a1) l l2 = True := rfl
theorem xe_eqn {a0 : Bool} : effB ks (.eqn a0) l l2 = True := rfl
theorem xe_un {a0 : UnOp} : effB ks (.un a0) l l2 = True := rfl
theorem xe_conv {a0 : IntKind} : effB ks (.conv a0) l l2 = True := rfl
theorem xe_toStr  : effB ks (.toStr ) l l2 = True := rfl
theorem xe_slice {a0 : Nat} {a1 : Bool} {a2 : Bool} {a3 : Bool} : effB ks (.slice a0 a1 a2 a3) l l2 = True := rfl
theorem xe_faddr {a0 : Bool} {a1 : Nat} {a2 : Nat} : effB ks (.faddr a0 a1 a2) l l2 = True := rfl
theorem xe_field {a0 : Bool} {a1 : Nat} {a2 : Nat} : effB ks (.field a0 a1 a2) l l2 = True := rfl
theorem xe_iaddr {a0 : Nat} : effB ks (.iaddr a0) l l2 = True := rfl
theorem xe_iaddrA {a0 : Nat} {a1 : Nat} {a2 : Bool} : effB ks (.iaddrA a0 a1 a2) l l2 = True := rfl
theorem xe_index {a0 : Nat} {a1 : Nat} {a2 : Bool} : effB ks (.index a0 a1 a2) l l2 = True := rfl
theorem xe_indexStr  : effB ks (.indexStr ) l l2 = True := rfl
theorem xe_extract {a0 : Nat} : effB ks (.extract a0) l l2 = True := rfl
theorem xe_len {a0 : Bool} : effB ks (.len a0) l l2 = True := rfl
theorem xe_max  : effB ks (.max ) l l2 = True := rfl
theorem xe_min  : effB ks (.min ) l l2 = True := rfl
theorem xe_mkSlice {a0 : Nat} {a1 : Nat} {a2 : AV} : effB ks (.mkSlice a0 a1 a2) l l2 = True := rfl
theorem xe_mkFunc {a0 : Nat} : effB ks (.mkFunc a0) l l2 = True := rfl
theorem xe_mapGet {a0 : AV} : effB ks (.mapGet a0) l l2 = True := rfl
theorem xe_call  : effB ks (.call ) l l2 = True := rfl
theorem sb1 {i : Nat} : SameBut i ks [] l = True := rfl
theorem sb2 {i : Nat} {G G2 : Grp} : SameBut i ks (G :: l) (G2 :: l2) = ((i ∈ ks ∨ G = G2) ∧ SameBut (i + 1) ks l l2) := rfl
end
theorem xx : type_of% (And.intro @xk1 <| And.intro @xk2 <| And.intro @xk3 <| And.intro @xk4 <| And.intro @xk5 <| And.intro @xk6 <| And.intro @xk7 <| And.intro @xk8 <| And.intro @xe_mv <| And.intro @xe_pick <| And.intro @xe_alloc <| And.intro @xe_box <| And.intro @xe_build <| And.intro @xe_bslice <| And.intro @xe_load <| And.intro @xe_store <| And.intro @xe_nilCheck <| And.intro @xe_bin <| And.intro @xe_eqb <| And.intro @xe_eqs <| And.intro @xe_eqn <| And.intro @xe_un <| And.intro @xe_conv <| And.intro @xe_toStr <| And.intro @xe_slice <| And.intro @xe_faddr <| And.intro @xe_field <| And.intro @xe_iaddr <| And.intro @xe_iaddrA <| And.intro @xe_index <| And.intro @xe_indexStr <| And.intro @xe_extract <| And.intro @xe_len <| And.intro @xe_max <| And.intro @xe_min <| And.intro @xe_mkSlice <| And.intro @xe_mkFunc <| And.intro @xe_mapGet <| And.intro @xe_call <| And.intro @sb1 <| @sb2) := And.intro @xk1 <| And.intro @xk2 <| And.intro @xk3 <| And.intro @xk4 <| And.intro @xk5 <| And.intro @xk6 <| And.intro @xk7 <| And.intro @xk8 <| And.intro @xe_mv <| And.intro @xe_pick <| And.intro @xe_alloc <| And.intro @xe_box <| And.intro @xe_build <| And.intro @xe_bslice <| And.intro @xe_load <| And.intro @xe_store <| And.intro @xe_nilCheck <| And.intro @xe_bin <| And.intro @xe_eqb <| And.intro @xe_eqs <| And.intro @xe_eqn <| And.intro @xe_un <| And.intro @xe_conv <| And.intro @xe_toStr <| And.intro @xe_slice <| And.intro @xe_faddr <| And.intro @xe_field <| And.intro @xe_iaddr <| And.intro @xe_iaddrA <| And.intro @xe_index <| And.intro @xe_indexStr <| And.intro @xe_extract <| And.intro @xe_len <| And.intro @xe_max <| And.intro @xe_min <| And.intro @xe_mkSlice <| And.intro @xe_mkFunc <| And.intro @xe_mapGet <| And.intro @xe_call <| And.intro @sb1 <| @sb2
theorem G_mapSet {P : Program} {l : List Grp} {xs : List AV} {K : AV → List Grp → Prop} : @opG P .mapSet l xs ⟨K⟩ = @opK P .mapSet (hl l) xs ⟨fun x H' => ∀ l', H' = hl l' → K x l'⟩ := (G_eff rfl rfl).trans (by simp only [AK.appOk, offOk, true_and])
attribute [push_cast] G_mapGet G_mapSet
end Go.Proofs.Yticodgjinajkpaa.Abs
set_option linter.unusedSimpArgs false
set_option linter.unusedVariables false
namespace Go.Proofs.Yticodgjinajkpaa.Abs
def Ent (n b : Nat) (env : Env) (H : AHeap) (env' : Env) (H' : AHeap) : Prop := ∀ (S : MS) (val : Nat → Value), b ≤ S.n → SRel S H → (∀ i, i < n → VRel S (env i) (val i)) →
  ∃ S', S'.w = S.w ∧ BEvo b S S' ∧ SRel S' H' ∧ ∀ i, i < n → VRel S' (env' i) (val i)
section
variable {P : Program} {n b : Nat} {env env' : Env} {H H' : AHeap} {Q : Ex → Env → AHeap → Prop}
theorem Ent.refl : Ent n b env H env H := fun S val hb hS hv => ⟨S, rfl, .refl hb, hS, hv⟩
theorem Ent.trans {env2 : Env} {H2 : AHeap} (h1 : Ent n b env H env' H') (h2 : Ent n b env' H' env2 H2) : Ent n b env H env2 H2 := fun S val hb hS hv => by
  obtain ⟨S1, a1, a2, a3, a4⟩ := h1 S val hb hS hv
  obtain ⟨S2, c1, c2, c3, c4⟩ := h2 S1 val a2.n a3 a4
  exact ⟨S2, c1.trans a1, a2.trans c2, c3, c4⟩
theorem T_ent {c : AC} (he : Ent n b env H env' H') (h : T P n b c env' H' Q) : T P n b c env H Q := by
  intro rd mm hrd code hc S a hbS hS hF
  obtain ⟨S', hw, hev, hS', hv⟩ := he S (fun i => a.tmps.getD i undef) hbS hS hF.val
  have := h rd mm hrd code hc S' a hev.n hS' ⟨hF.size, hF.defers.of hev.base hev.size hev.keep hev.fresh (fun b hb => hev.kept b (.inr hb)), hv⟩
  rw [hw] at this
  exact wpIn_mono this fun e a w hh => hh.trans hev
theorem T_loopE {σ : Type} (Fact : σ → Prop) (μ : σ → Nat) (envs : σ → Env) (heap : σ → AHeap) {c : AC} (s0 : σ) (h0 : Fact s0) (he : Ent n b env H (envs s0) (heap s0))
    (round : ∀ s, Fact s → T P n b c (envs s) (heap s) (Ex.then (fun env' H' => ∃ s', Ent n b env' H' (envs s') (heap s') ∧ Fact s' ∧ μ s' < μ s) Q)) : T P n b (.loop c) env H Q := by
  refine T_loop (fun s env H => Fact s ∧ Ent n b env H (envs s) (heap s)) μ s0 ⟨h0, he⟩ fun s env H hI => ?_
  refine T_ent hI.2 (T.mono (round s hI.1) fun x env' H' hh => ?_)
  cases x with
  | normal => obtain ⟨s', k1, k2, k3⟩ := hh; exact ⟨s', ⟨k2, k1⟩, k3⟩
  | exit id => exact hh
  | ret => exact hh
theorem Ent_live (live : List (Nat × AV)) (h : ∀ p ∈ live, env p.1 = p.2) : Ent n b env H (mkEnv live) H := fun S val hb hS hv => by
  refine ⟨S, rfl, .refl hb, hS, fun i hi => ?_⟩
  have key : ∀ (l : List (Nat × AV)), (∀ p ∈ l, env p.1 = p.2) → VRel S (mkEnv l i) (val i) := fun l => by
    induction l with
    | nil => exact fun _ => trivial
    | cons p l ih =>
      intro hp
      obtain ⟨t, y⟩ := p
      show VRel S (if i = t then y else mkEnv l i) _
      split
      · rename_i hit
        subst hit
        have e : env i = y := hp (i, y) (by simp)
        rw [← e]
        exact hv i hi
      · exact ih fun p hp' => hp p (by simp [hp'])
  exact key live h
mutual
theorem ren_same : ∀ x : AV, ren (fun g => g) x = x
  | .any | .bool _ | .int _ _ | .str _ | .nilS | .nul | .emp | .nilP | .nilF | .yld _ | .lst _ _ | .full _ _ | .cptr _ | .map _ _ | .ref _ _ _ _ | .ptr _ _ _ _ => rfl
  | .agg cs => by rw [ren, renL_same cs]
  | .tup cs => by rw [ren, renL_same cs]
  | .fn f cs => by rw [ren, renL_same cs]
theorem renL_same : ∀ xs : List AV, renL (fun g => g) xs = xs
  | [] => rfl
  | x :: xs => by rw [renL, ren_same x, renL_same xs]
end
theorem Ent_cut {l gar : List Grp} (hb : b ≤ l.length) (hcl : ∀ G ∈ l, ltL l.length G.xs) (hlive : ∀ i, i < n → ltV l.length (env i)) : Ent n b env (hl (l ++ gar)) env (hl l) := fun S val hbS hS hv => by
  have hn : S.n = l.length + gar.length := by rw [← List.length_append]; exact hS.n
  have hat : ∀ g, g < l.length → (hl (l ++ gar)).at_ g = (hl l).at_ g := fun g hg => by
    rw [hl_at, hl_at]; simp [List.getD, List.getElem?_append_left hg]
  let S' : MS := { S with n := l.length }
  have hdown : ∀ (x : AV) {v : Value}, ltV l.length x → VRel S x v → VRel S' x v := fun x v hx h => by
    rw [← ren_same x] at h
    exact ren_down (A := S') (B := S) (σ := fun g => g) (m := l.length) rfl (fun b hb => hb) (fun g hg => ⟨hg, rfl, rfl, rfl, rfl⟩) x hx h
  have hdownL : ∀ (xs : List AV) {vs : List Value}, ltL l.length xs → VsRel S xs vs → VsRel S' xs vs := fun xs vs hx h => by
    rw [← renL_same xs] at h
    exact renL_down (A := S') (B := S) (σ := fun g => g) (m := l.length) rfl (fun b hb => hb) (fun g hg => ⟨hg, rfl, rfl, rfl, rfl⟩) xs hx h
  refine ⟨S', rfl, ⟨rfl, rfl, rfl, rfl, Nat.le_refl _, fun _ _ => rfl, fun _ h => h, fun _ h => h, fun _ h => .inl h, hb, fun _ _ => Nat.le_refl _, fun _ _ _ => ⟨rfl, rfl, rfl⟩⟩, ⟨rfl, fun g hg => ?_, fun g g' hg hg' hne hw hw' => ?_, hS.im⟩, fun i hi => hdown _ (hlive i hi) (hv i hi)⟩
  · have hg' : g < l.length := hg
    have hG := hS.grp g (by show g < (l ++ gar).length; rw [List.length_append]; omega)
    rw [hat g hg'] at hG
    have hm : (hl l).at_ g ∈ l := by rw [hl_at, List.getD_eq_getElem?_getD, List.getElem?_eq_getElem hg']; exact List.getElem_mem _
    have hc := hcl _ hm
    refine ⟨hG.ver, hG.wid, fun hw hcap => ?_, hG.len, hG.full, fun hw he => ?_⟩
    · obtain ⟨⟨cells, TT, vs, a1, a2, a3, a4⟩, a5⟩ := hG.live hw hcap
      exact ⟨⟨cells, TT, vs, a1, a2, hdownL _ hc a3, a4⟩, a5⟩
    · obtain ⟨⟨es, clock, a1, a2⟩, a5⟩ := hG.mlive hw he
      exact ⟨⟨es, clock, a1, hdownL _ hc a2⟩, a5⟩
  · have hg1 : g < l.length := hg
    have hg2 : g' < l.length := hg'
    rw [← hat g hg1] at hw
    rw [← hat g' hg2] at hw'
    exact hS.apart g g' (by show g < (l ++ gar).length; rw [List.length_append]; omega) (by show g' < (l ++ gar).length; rw [List.length_append]; omega) hne hw hw'
theorem Ent_virt {l : List Grp} (ws : List Nat) (hw : ∀ w ∈ ws, 0 < w) : Ent n b env (hl l) env (hl (l ++ ws.map virtG)) := fun S val hbS hS hv => by
  obtain ⟨S', e1, e2, e3, e4⟩ := virt_val ws (env := fun i => if i < n then env i else .any) (val := val) hw hS (fun i => by
    show VRel S (if i < n then env i else .any) _
    split
    · exact hv i (by assumption)
    · trivial)
  refine ⟨S', e1, e2.down hbS, e3, fun i hi => ?_⟩
  have := e4 i
  simp only [if_pos hi] at this
  exact this
theorem Ent_le {l l' : List Grp} (h : grpsLe l l l') (hv : ∀ i, i < n → leS l (env i) (env' i)) : Ent n b env (hl l) env' (hl l') := fun S val hbS hS hval =>
  ⟨S, rfl, .refl hbS, grpsLe_rel hS h, fun i hi => leS_ok (.inl hS) _ (hv i hi) (hval i hi)⟩
theorem Ent_frz (i d : Nat) (ks : List Nat) (hok : frzOk d (H.only ks) (env i)) : Ent n b env H (env.put (some i) (frzV d (H.only ks) (env i))) (H.kill ks) := fun S val hbS hS hv => by
  refine ⟨S.kill H ks, rfl, (kill_evo ks hS).down hbS, kill_rel ks hS, fun j hj => ?_⟩
  show VRel _ (if j = i then _ else _) _
  split
  · rename_i hji
    subst hji
    exact frz_kill ks hS d hok (hv j hj)
  · exact VRel.mono (kill_evo ks hS) _ (hv j hj)
theorem LoopK_E {c : AC} (he : Ent n b env H env' H') (h : @LoopK ⟨T P n b c env' H' Q⟩) : @LoopK ⟨T P n b c env H Q⟩ := T_ent he h
end
end Go.Proofs.Yticodgjinajkpaa.Abs
set_option linter.unusedSimpArgs false
set_option linter.unusedVariables false
namespace Go.Proofs.Yticodgjinajkpaa
open Abs
def isEps (r : Rule) : Bool := decide ((r.guards.length : Int) = 0)
def toD (l : List Rule) (i : Nat) : List Int := (l.filter fun r => isEps r && decide (r.from_ = i)).map (·.to_)
def inD (l : List Rule) (j : Nat) : Int := ((l.filter fun r => isEps r && decide (r.to_ = j)).length : Int)
def cntE (l : List Rule) (P : List Int) (j : Nat) : Int := ((l.filter fun r => isEps r && (decide (r.to_ = j) && !decide (r.from_ ∈ P))).length : Int)
theorem cntE_nil (l : List Rule) (j : Nat) : cntE l [] j = inD l j := by simp [cntE, inD]
theorem cntE_nn (l : List Rule) (P : List Int) (j : Nat) : 0 ≤ cntE l P j := by simp only [cntE]; omega
theorem cntE_le (l : List Rule) (P : List Int) (j : Nat) : cntE l P j ≤ cntE l [] j := by
  simp only [cntE]
  have : (l.filter fun r => isEps r && (decide (r.to_ = j) && !decide (r.from_ ∈ P))).length ≤ (l.filter fun r => isEps r && (decide (r.to_ = j) && !decide (r.from_ ∈ ([] : List Int)))).length := by
    induction l with
    | nil => simp
    | cons r l ih =>
      simp only [List.filter_cons]
      cases isEps r <;> cases decide (r.to_ = (j : Int)) <;> cases decide (r.from_ ∈ P) <;> simp at ih ⊢ <;> omega
  omega
theorem cntE_pop {s j : Nat} {P : List Int} (hs : (s : Int) ∉ P) : ∀ l : List Rule, cntE l (P ++ [(s : Int)]) j + ((toD l s).count (j : Int) : Int) = cntE l P j
  | [] => by simp [cntE, toD]
  | r :: l => by
    have ih := cntE_pop (j := j) hs l
    simp only [cntE, toD, List.filter_cons] at ih ⊢
    cases he : isEps r
    · simpa using ih
    · simp only [Bool.true_and]
      by_cases ht : r.to_ = j
      · by_cases hf : r.from_ = s
        · have h1 : r.from_ ∈ P ++ [(s : Int)] := by simp [hf]
          have h2 : r.from_ ∉ P := by rw [hf]; exact hs
          simp only [ht, hf] at h1 h2 ⊢
          simp only [decide_true, h1, h2, decide_false, Bool.not_true, Bool.not_false, Bool.and_false, Bool.and_true, if_true, Bool.false_eq_true, if_false, List.length_cons, List.map_cons, List.count_cons_self, ht]
          push_cast
          omega
        · have h1 : (r.from_ ∈ P ++ [(s : Int)]) ↔ r.from_ ∈ P := by simp [hf]
          by_cases h2 : r.from_ ∈ P
          · simp only [ht, hf, h1, h2, decide_true, decide_false, Bool.not_true, Bool.and_false, Bool.false_eq_true, if_false]
            exact ih
          · simp only [ht, hf, h1, h2, decide_true, decide_false, Bool.not_false, Bool.and_true, if_true, Bool.false_eq_true, if_false, List.length_cons]
            push_cast
            omega
      · by_cases hf : r.from_ = s
        · simp only [ht, hf, decide_false, decide_true, Bool.false_and, Bool.false_eq_true, if_false, if_true, List.map_cons]
          rw [List.count_cons_of_ne ht]
          exact ih
        · simp only [ht, hf, decide_false, Bool.false_and, Bool.false_eq_true, if_false]
          exact ih
theorem subset_len : ∀ {a b : List Int}, a.Nodup → (∀ x ∈ a, x ∈ b) → a.length ≤ b.length
  | [], b, _, _ => Nat.zero_le _
  | x :: a, b, hn, h => by
    obtain ⟨h1, h2⟩ := List.nodup_cons.1 hn
    have hx := h x (by simp)
    have := subset_len (a := a) (b := b.erase x) h2 fun y hy => (List.mem_erase_of_ne (fun (e : y = x) => h1 (by rw [← e]; exact hy))).2 (h y (by simp [hy]))
    rw [List.length_erase_of_mem hx] at this
    have := List.length_pos_of_mem hx
    simp only [List.length_cons]
    omega
def idsN (n : Nat) : List Int := (List.range n).map fun (i : Nat) => (i : Int)
theorem ids_nodup (n : Nat) : (idsN n).Nodup := by
  rw [idsN, List.nodup_iff_pairwise_ne, List.pairwise_map]
  exact (List.nodup_iff_pairwise_ne.1 (List.nodup_range)).imp fun h e => h (by omega)
theorem ids_mem {n : Nat} {x : Int} : x ∈ idsN n ↔ 0 ≤ x ∧ x < n := by
  simp only [idsN, List.mem_map, List.mem_range]
  constructor
  · rintro ⟨i, hi, rfl⟩; omega
  · rintro ⟨h1, h2⟩; exact ⟨x.toNat, by omega, by omega⟩
def CycSet (l : List Rule) (n : Nat) (C : Int → Prop) : Prop := ∀ j, C j → (0 ≤ j ∧ j < n) ∧ ∃ r ∈ l, isEps r = true ∧ r.to_ = j ∧ C r.from_
def cycP (l : List Rule) (n : Nat) : Prop := ∃ C, CycSet l n C ∧ ∃ j, C j
structure KInv (l : List Rule) (n : Nat) (D : List Int) (I : Nat → Int) : Prop where
  nodup : D.Nodup
  range : ∀ x ∈ D, 0 ≤ x ∧ x < n
  zero : ∀ j, j < n → ((j : Int) ∈ D ↔ I j = 0)
  apart : ∀ C, CycSet l n C → ∀ x ∈ D, ¬ C x
theorem KInv.len {l : List Rule} {n : Nat} {D : List Int} {I : Nat → Int} (h : KInv l n D I) : D.length ≤ n := by
  have := subset_len h.nodup fun x hx => ids_mem.2 (h.range x hx)
  simpa [idsN] using this
def zeroL (f : Nat → Int) (k : Nat) : List Int := ((List.range k).filter fun j => decide (f j = 0)).map fun (j : Nat) => (j : Int)
theorem zeroL_succ (f : Nat → Int) (k : Nat) : zeroL f (k + 1) = if f k = 0 then zeroL f k ++ [(k : Int)] else zeroL f k := by
  rw [zeroL, List.range_succ, List.filter_append, List.map_append]
  split
  · rename_i h; simp [zeroL, h]
  · rename_i h; simp [zeroL, h]
theorem zeroL_len (f : Nat → Int) (k : Nat) : (zeroL f k).length ≤ k := by
  have := List.length_filter_le (fun j => decide (f j = 0)) (List.range k)
  simpa [zeroL] using this
theorem inD_pos {l : List Rule} {r : Rule} {j : Nat} (hr : r ∈ l) (he : isEps r = true) (ht : r.to_ = j) : 0 < inD l j := by
  have : 0 < (l.filter fun r => isEps r && decide (r.to_ = j)).length := List.length_pos_of_mem (List.mem_filter.2 ⟨hr, by simp [he, ht]⟩)
  simp only [inD]; omega
theorem cntE_pos {l : List Rule} {P : List Int} {r : Rule} {j : Nat} (hr : r ∈ l) (he : isEps r = true) (ht : r.to_ = j) (hf : r.from_ ∉ P) : 0 < cntE l P j := by
  have : 0 < (l.filter fun r => isEps r && (decide (r.to_ = j) && !decide (r.from_ ∈ P))).length := List.length_pos_of_mem (List.mem_filter.2 ⟨hr, by simp [he, ht, hf]⟩)
  simp only [cntE]; omega
theorem kinv_start (l : List Rule) (n : Nat) : KInv l n (zeroL (inD l) n) (cntE l []) where
  nodup := by
    rw [zeroL, List.nodup_iff_pairwise_ne, List.pairwise_map]
    exact ((List.nodup_iff_pairwise_ne.1 (List.nodup_range)).filter _).imp fun h e => h (by omega)
  range x hx := by
    obtain ⟨i, hi, rfl⟩ := List.mem_map.1 hx
    have := (List.mem_filter.1 hi).1
    simp at this
    omega
  zero j hj := by
    rw [cntE_nil]
    simp only [zeroL, List.mem_map, List.mem_filter, List.mem_range, decide_eq_true_eq]
    constructor
    · rintro ⟨i, ⟨h1, h2⟩, e⟩
      obtain rfl : i = j := by omega
      exact h2
    · intro h; exact ⟨j, ⟨hj, h⟩, rfl⟩
  apart C hC x hx hCx := by
    obtain ⟨i, hi, rfl⟩ := List.mem_map.1 hx
    have h0 := (List.mem_filter.1 hi).2
    simp only [decide_eq_true_eq] at h0
    obtain ⟨_, r, hr, he, ht, _⟩ := hC _ hCx
    have := inD_pos hr he ht
    omega
def leftE (l : List Rule) (P : List Int) (s m : Nat) (j : Nat) : Int := cntE l P j - (((toD l s).take m).count (j : Int) : Int)
theorem leftE_zero (l : List Rule) (P : List Int) (s : Nat) : leftE l P s 0 = cntE l P := by funext j; simp [leftE]
theorem leftE_end {l : List Rule} {P : List Int} {s : Nat} (hs : (s : Int) ∉ P) : leftE l P s (toD l s).length = cntE l (P ++ [(s : Int)]) := by
  funext j
  have := cntE_pop (j := j) hs l
  rw [leftE, List.take_length]
  omega
theorem leftE_ge {l : List Rule} {P : List Int} {s m j : Nat} (hs : (s : Int) ∉ P) : cntE l (P ++ [(s : Int)]) j ≤ leftE l P s m j := by
  have h1 := cntE_pop (j := j) hs l
  have h2 := (List.take_sublist m (toD l s)).count_le (j : Int)
  rw [leftE]
  omega
theorem leftE_step {l : List Rule} {P : List Int} {s m t : Nat} (hm : m < (toD l s).length) (ht : nth (toD l s) m = t) : leftE l P s (m + 1) = fun j => if j = t then leftE l P s m t - 1 else leftE l P s m j := by
  funext j
  rw [leftE, take_at hm, List.count_append, ht]
  by_cases e : j = t
  · subst e; simp [leftE]; omega
  · have h0 : List.count (j : Int) [(t : Int)] = 0 := List.count_eq_zero.2 (by simp; omega)
    rw [if_neg e, h0, leftE]; omega
theorem leftE_pos {l : List Rule} {P : List Int} {s m t : Nat} (hs : (s : Int) ∉ P) (hm : m < (toD l s).length) (ht : nth (toD l s) m = t) : 0 < leftE l P s m t := by
  have h1 := leftE_ge (l := l) (m := m + 1) (j := t) hs
  have h2 := cntE_nn l (P ++ [(s : Int)]) t
  rw [leftE_step hm ht] at h1
  simp only [if_true] at h1
  omega
theorem kinv_step {l : List Rule} {n : Nat} {P td : List Int} {s m t : Nat} (hs : (s : Int) ∉ P) (hm : m < (toD l s).length) (ht : nth (toD l s) m = t) (htn : t < n) (h : KInv l n (P ++ [(s : Int)] ++ td) (leftE l P s m)) :
    KInv l n (P ++ [(s : Int)] ++ if leftE l P s m t - 1 = 0 then td ++ [(t : Int)] else td) (leftE l P s (m + 1)) := by
  have hp := leftE_pos hs hm ht
  have hno : (t : Int) ∉ P ++ [(s : Int)] ++ td := fun hh => by
    have := (h.zero t htn).1 hh
    omega
  have hst := leftE_step (P := P) hm ht
  split
  · rename_i h0
    rw [← List.append_assoc]
    refine ⟨List.nodup_append.2 ⟨h.nodup, by simp, fun a ha b hb => ?_⟩, fun x hx => ?_, fun j hj => ?_, fun C hC x hx hCx => ?_⟩
    · simp only [List.mem_singleton] at hb
      subst hb
      exact fun e => hno (e ▸ ha)
    · rcases List.mem_append.1 hx with hx | hx
      · exact h.range x hx
      · simp only [List.mem_singleton] at hx; omega
    · rw [hst, List.mem_append, List.mem_singleton]
      by_cases e : j = t
      · subst e; simp [h0]
      · simp only [if_neg e]
        rw [← h.zero j hj]
        exact ⟨fun hh => hh.elim id fun hh => absurd hh (by omega), .inl⟩
    · rcases List.mem_append.1 hx with hx | hx
      · exact h.apart C hC x hx hCx
      · simp only [List.mem_singleton] at hx
        subst hx
        obtain ⟨_, r, hr, he, hrt, hrf⟩ := hC _ hCx
        have hf : r.from_ ∉ P ++ [(s : Int)] := fun hh => h.apart C hC _ (List.mem_append.2 (.inl hh)) hrf
        have h1 := cntE_pos hr he hrt hf
        have h2 := leftE_ge (l := l) (m := m + 1) (j := t) hs
        rw [hst] at h2
        simp only [if_true] at h2
        omega
  · rename_i h0
    refine ⟨h.nodup, h.range, fun j hj => ?_, h.apart⟩
    rw [hst]
    by_cases e : j = t
    · subst e; simp only [if_true]; exact ⟨fun hh => absurd hh hno, fun hh => absurd hh h0⟩
    · simp only [if_neg e]; exact h.zero j hj
theorem kinv_done {l : List Rule} {n : Nat} {P : List Int} (hl : ∀ r ∈ l, 0 ≤ r.from_ ∧ r.from_ < n) (h : KInv l n P (cntE l P)) : P.length < n ↔ cycP l n := by
  constructor
  · intro hlt
    refine ⟨fun j => (0 ≤ j ∧ j < n) ∧ j ∉ P, fun j hj => ⟨hj.1, ?_⟩, ?_⟩
    · have h0 : cntE l P j.toNat ≠ 0 := fun h0 => hj.2 (by
        have := (h.zero j.toNat (by omega)).2 h0
        rwa [show ((j.toNat : Nat) : Int) = j by omega] at this)
      have : 0 < (l.filter fun r => isEps r && (decide (r.to_ = (j.toNat : Nat)) && !decide (r.from_ ∈ P))).length := by
        simp only [cntE] at h0; omega
      obtain ⟨r, hr⟩ := List.exists_mem_of_length_pos this
      obtain ⟨h1, h2⟩ := List.mem_filter.1 hr
      simp only [Bool.and_eq_true, decide_eq_true_eq, Bool.not_eq_true', decide_eq_false_iff_not] at h2
      exact ⟨r, h1, h2.1, by rw [h2.2.1]; omega, hl r h1, h2.2.2⟩
    · refine Classical.byContradiction fun hno => ?_
      have := subset_len (ids_nodup n) fun x hx => Classical.byContradiction fun hp => hno ⟨x, ids_mem.1 hx, hp⟩
      simp [idsN] at this
      omega
  · rintro ⟨C, hC, j, hj⟩
    have hr := (hC j hj).1
    have hjP : j ∉ P := fun hh => h.apart C hC j hh hj
    have := subset_len (a := j :: P) (b := idsN n) (List.nodup_cons.2 ⟨hjP, h.nodup⟩) fun x hx => by
      rcases List.mem_cons.1 hx with rfl | hx
      · exact ids_mem.2 hr
      · exact ids_mem.2 (h.range x hx)
    simp [idsN] at this
    omega
end Go.Proofs.Yticodgjinajkpaa
set_option linter.unusedSimpArgs false
set_option linter.unusedVariables false
namespace Go.Proofs.Yticodgjinajkpaa
open Abs
def onF (l : List Rule) (on : Nat → Bool) (j : Nat) : Bool := l.any fun r => isEps r && (on r.from_.toNat && decide (r.to_ = j))
def onK (l : List Rule) : Nat → Nat → Bool
  | 0 => fun _ => true
  | k + 1 => onF l (onK l k)
def someF (l : List Rule) (on : Nat → Bool) : Bool := l.any fun r => isEps r && on r.from_.toNat
def cycR (l : List Rule) (n : Nat) : Bool := (List.range (n + 1)).all fun k => someF l (onK l k)
theorem onF_mono {l : List Rule} {p q : Nat → Bool} (h : ∀ j, p j = true → q j = true) (j : Nat) : onF l p j = true → onF l q j = true := by
  simp only [onF, List.any_eq_true, Bool.and_eq_true, decide_eq_true_eq]
  rintro ⟨r, hr, h1, h2, h3⟩
  exact ⟨r, hr, h1, h _ h2, h3⟩
theorem onK_down (l : List Rule) : ∀ (k j : Nat), onK l (k + 1) j = true → onK l k j = true
  | 0, j, _ => rfl
  | k + 1, j, h => onF_mono (fun j => onK_down l k j) j h
theorem filter_lt {p q : Nat → Bool} (h : ∀ j, p j = true → q j = true) : ∀ {l : List Nat} {x : Nat}, x ∈ l → q x = true → p x = false → (l.filter p).length < (l.filter q).length
  | [], _, hx, _, _ => by cases hx
  | y :: l, x, hx, hq, hp => by
    have hle : ∀ l : List Nat, (l.filter p).length ≤ (l.filter q).length := fun l => by
      induction l with
      | nil => simp
      | cons a l ih =>
        simp only [List.filter_cons]
        have := h a
        cases hpa : p a <;> cases hqa : q a <;> simp_all <;> omega
    simp only [List.filter_cons]
    rcases List.mem_cons.1 hx with rfl | hx
    · have := hle l
      simp only [hp, hq, Bool.false_eq_true, if_false, if_true, List.length_cons]
      omega
    · have ih := filter_lt h hx hq hp
      have := h y
      cases hpa : p y <;> cases hqa : q y <;> simp_all <;> omega
theorem cyc_same {l : List Rule} {n : Nat} (hl : ∀ r ∈ l, (0 ≤ r.from_ ∧ r.from_ < n) ∧ 0 ≤ r.to_ ∧ r.to_ < n) : cycR l n = true ↔ cycP l n := by
  rw [cycR, List.all_eq_true]
  constructor
  · intro h
    have hex : ∃ k, k ≤ n ∧ ∀ j, j < n → onK l k j = true → onK l (k + 1) j = true := by
      refine Classical.byContradiction fun hno => ?_
      have hstep : ∀ k, k ≤ n → ∃ j, j < n ∧ onK l k j = true ∧ onK l (k + 1) j = false := fun k hk => Classical.byContradiction fun hc => hno ⟨k, hk, fun j hj h1 => by
        cases h2 : onK l (k + 1) j
        · exact absurd ⟨j, hj, h1, h2⟩ hc
        · rfl⟩
      have key : ∀ k, k ≤ n + 1 → ((List.range n).filter (onK l k)).length + k ≤ n := fun k => by
        induction k with
        | zero =>
          intro _
          have := List.length_filter_le (onK l 0) (List.range n)
          simpa using this
        | succ k ih =>
          intro hk
          obtain ⟨j, hj, h1, h2⟩ := hstep k (by omega)
          have := filter_lt (fun j => onK_down l k j) (List.mem_range.2 hj) h1 h2
          have := ih (by omega)
          omega
      have := key (n + 1) (Nat.le_refl _)
      omega
    obtain ⟨k, hk, hs⟩ := hex
    refine ⟨fun j => 0 ≤ j ∧ j < n ∧ onK l k j.toNat = true, fun j hj => ⟨⟨hj.1, hj.2.1⟩, ?_⟩, ?_⟩
    · have h1 := hs j.toNat (by omega) hj.2.2
      simp only [onK, onF, List.any_eq_true, Bool.and_eq_true, decide_eq_true_eq] at h1
      obtain ⟨r, hr, he, hf, ht⟩ := h1
      have hb := hl r hr
      exact ⟨r, hr, he, by omega, by omega, by omega, hf⟩
    · have h1 := h k (by simp; omega)
      simp only [someF, List.any_eq_true, Bool.and_eq_true] at h1
      obtain ⟨r, hr, _, hf⟩ := h1
      have hb := hl r hr
      exact ⟨r.from_, by omega, by omega, hf⟩
  · rintro ⟨C, hC, j, hj⟩ k _
    have key : ∀ k i, C i → onK l k i.toNat = true := fun k => by
      induction k with
      | zero => exact fun _ _ => rfl
      | succ k ih =>
        intro i hi
        obtain ⟨h1, r, hr, he, ht, hf⟩ := hC i hi
        simp only [onK, onF, List.any_eq_true, Bool.and_eq_true, decide_eq_true_eq]
        exact ⟨r, hr, he, ih _ hf, by omega⟩
    obtain ⟨_, r, hr, he, _, hf⟩ := hC j hj
    simp only [someF, List.any_eq_true, Bool.and_eq_true]
    exact ⟨r, hr, he, key k _ hf⟩
end Go.Proofs.Yticodgjinajkpaa
