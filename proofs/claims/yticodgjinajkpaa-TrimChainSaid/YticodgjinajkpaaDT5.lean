/-
  Functions that hand on rows: their code, carried out between the rounds.
  Contracts of layers 2, 3: sorts; parts.
  Contracts of layer 4: terms.
  Contracts of layer 4: values; terms put together and bound.
  Contracts of layer 4: terms put together and bound.
  Contracts of layer 4: the document's terms put together, and bound; terms alike.
  Contracts of layer 4: terms bound; terms alike.
  Plain laws of layer 4: what terms put together, and bound, tell.
  What comes in, as the program's data.
  Contracts of layer 4's statements: the document's examples; rightness, values.
  Contracts of layer 4's statements: terms put together, and bound.
  Epsilon rules: states whose ways come to an end, taken one by one.
  A box's value is read as data from here on.
  Ways of epsilon rules that are longer than there are states go round.
-/
import Derived.Test.YticodgjinajkpaaDT3
import Derived.Test.YticodgjinajkpaaDT4
set_option linter.unusedSimpArgs false
set_option linter.unusedVariables false
namespace Go.Proofs.Yticodgjinajkpaa.Abs
section
variable {P : Program} {n b : Nat} {S : MS} {H : z02}
theorem put_defers (a : Act) (d : Option Nat) (v : Value) : (a.put d v).defers = a.defers := by cases d <;> rfl
theorem y95 (hS : SRel S H) {env : Env} {a : Act} (hF : FRel S n env a) {o : Oper} {q : AOp} {ops : Array Oper} (h : z1d P n ops o = some q) {K : AV → z02 → Prop} (hst : z04 P q.k H (q.vals env) K)
   {N : Act → World → Prop} {Q : Exit → Act → World → Prop} (hN : ∀ S' H' x a', Evo S S' → SRel S' H' → FRel S' n (env.put q.dst x) a' → a'.defers = a.defers → K x H' → N a' S'.w) (r : Option Nat) (m : Nat) : o.wpIn (fen r) m P a S.w N Q := by
 obtain ⟨h1, h2, h3, h4, _⟩ := z0t h
 have hargs := z9e hF h2
 have hsem : o.semAt (fen r).round a.eval = execOp a.eval o := Oper.semAt_eq _ _ _ fun c hc => by rw [hc] at h1; cases h1
 rcases zev hS o h1 (ρ := a.eval) hargs hst with ⟨v, S', x, H', hr, e, hS', hv, hK⟩ | ⟨f, cargs, hr, hc⟩
 · have hN' := fun v' (hv' : VRel S' x v') => hN S' H' x (a.put o.dst v') e hS' (by rw [h3]; exact (hF.mono e).put h4 hv') (put_defers _ _ _) hK
   refine ⟨fun _ _ => trivial, ?_⟩
   rw [hsem]
   rcases hr with hr | ⟨hr, rfl⟩ <;> rw [hr]
   · exact hN' v hv
   · exact hN' undef hv
 · refine ⟨fun _ _ => trivial, ?_⟩
   rw [hsem, hr, Oper.uponIn_enter]
   refine ⟨fun h => (by cases h), zcd (hc.mono fun e w' hh => ?_)⟩
   obtain ⟨v, S', x, H', rfl, rfl, ev, hS', hv, hK⟩ := hh
   exact hN S' H' x (a.put o.dst v) ev hS' (by rw [h3]; exact (hF.mono ev).put h4 hv) (put_defers _ _ _) hK
theorem z6d {ops : Array Oper} {Q : Exit → Act → World → Prop} {rd : Option Nat} {m : Nat} (tl : List Nat) : ∀ (l : List Oper) (l' : List AOp) (k : Nat), (∀ j, j < l.length → l[j]? = ops[k + j]?) → l.mapM (z1d P n ops) = some l' → ∀ {S : MS} {H : z02} {env : Env} {a : Act} {K : Env → z02 → Prop},
   SRel S H → FRel S n env a → runK P l' env H K → (∀ S' H' env' a', Evo S S' → SRel S' H' → FRel S' n env' a' → a'.defers = a.defers → K env' H' → wpOpsIn (fen rd) m P ops Q tl a' S'.w) → wpOpsIn (fen rd) m P ops Q (List.range' k l.length ++ tl) a S.w
 | [], l', k, _, hm, S, H, env, a, K, hS, hF, hr, hQ => by
   simp at hm
   subst hm
   exact hQ S H env a (.refl S) hS hF rfl hr
 | o :: l, l', k, hl, hm, S, H, env, a, K, hS, hF, hr, hQ => by
   rw [List.mapM_cons] at hm
   simp only [Option.bind_eq_bind, Option.bind_eq_some_iff, Option.pure_def, Option.some.injEq] at hm
   obtain ⟨q, hq, r, hrr, rfl⟩ := hm
   have h0 : ops[k]? = some o := by simpa using (hl 0 (by simp)).symm
   have hl' : ∀ j, j < l.length → l[j]? = ops[k + 1 + j]? := fun j hj => by have := hl (j + 1) (by simp; omega); simpa [Nat.add_assoc, Nat.add_comm 1 j] using this
   have hg := zcc hq hF hr
   rw [show List.range' k (o :: l).length ++ tl = k :: (List.range' (k + 1) l.length ++ tl) from rfl]
   simp only [wpOpsIn, h0]
   cases hw : Region.wanted o (yielded ops a.tmps)
   · rw [hw] at hg
     simp only [Bool.false_eq_true, if_false] at hg ⊢
     obtain ⟨_, _, h3, h4, _⟩ := z0t hq
     exact ⟨fun _ _ => trivial, z6d tl l r (k + 1) hl' hrr hS (by rw [h3]; exact hF.put h4 z74) hg (fun S' H' env' a' e hS' hF' hd => hQ S' H' env' a' e hS' hF' (hd.trans (put_defers _ _ _)))⟩
   · rw [hw] at hg
     simp only [if_true] at hg ⊢
     refine y95 hS hF hq hg (fun S' H' x a' e hS' hF' hd hK => ?_) rd m
     exact z6d tl l r (k + 1) hl' hrr hS' hF' hK (fun S2 H2 env2 a2 e2 hS2 hF2 hd2 hK2 => hQ S2 H2 env2 a2 (e.trans e2) hS2 hF2 (hd2.trans hd) hK2)
end
structure Itr where
 P : Program
 l : Nat
 m : Nat
 rows : List (List AV)
 S0 : MS
 J : Nat → (Nat → Prop) → World → Prop
 Jx : Nat → (Nat → Prop) → World → Prop
 cJ : Clo J
 cx : Clo Jx
 fact : ∀ k O W, J k O W ∨ Jx k O W → (∀ b, S0.im b → ¬ O b ∧ W.heap[b]? = S0.w.heap[b]?) ∧ (W.os = S0.w.os ∧ W.tape = S0.w.tape ∧ W.output = S0.w.output) ∧ S0.w.heap.size ≤ W.heap.size ∧ ∀ b, O b → S0.w.heap.size ≤ b ∧ b < W.heap.size
 round : ∀ k row O W, rows[k]? = some row → J k O W → YieldAt Fence.wide m P l (encI row) W fun e W' => W.heap.size ≤ W'.heap.size ∧ (∀ b, O b → W'.heap[b]? = W.heap[b]?) ∧ (e = .returned (.bool true) ∧ J (k + 1) O W' ∨ e = .returned (.bool false) ∧ Jx (k + 1) O W')
namespace Itr
def at_ (I : Itr) : Option Nat → (Nat → Prop) → World → Prop
 | some k, O, W => I.J k O W
 | none, O, W => ∃ k, I.Jx k O W
structure Now (I : Itr) (s : Option Nat) (X : Nat → Prop) (S : MS) (H : z02) : Prop where
 rel : SRel S H
 base : S.base ≤ S.w.heap.size
 keep : ∀ b, X b → S.keep b
 im : ∀ b, I.S0.im b → S.im b
 apart : ∀ b, S.im b → I.S0.im b ∨ ¬ X b
 st : I.at_ s (fun b => b < S.w.heap.size ∧ ¬ X b ∧ ¬ I.S0.im b) S.w
theorem Now.on {I : Itr} {s : Option Nat} {X : Nat → Prop} {S S' : MS} {H H' : z02} (h : I.Now s X S H) (e : Evo S S') (hr : SRel S' H') : I.Now s X S' H' := by
 have hX : ∀ b, X b → b < S.w.heap.size := fun b hb => h.rel.im b (.inr (h.keep b hb))
 have hi0 : ∀ b, I.S0.im b → b < S.w.heap.size := fun b hb => h.rel.im b (.inl (h.im b hb))
 refine ⟨hr, by rw [e.base]; exact Nat.le_trans h.base e.size, fun b hb => e.keep b (h.keep b hb), fun b hb => e.im b (h.im b hb), fun b hb => ?_, ?_⟩
 · rcases e.fresh b hb with hh | hh
   · exact h.apart b hh
   · exact .inr fun hx => hh (h.keep b hx)
 · have ho : (fun b => b < S'.w.heap.size ∧ ¬ X b ∧ ¬ I.S0.im b) = fun b => (b < S.w.heap.size ∧ ¬ X b ∧ ¬ I.S0.im b) ∨ (S.w.heap.size ≤ b ∧ b < S'.w.heap.size) := by
     funext b
     refine propext ⟨fun ⟨h1, h2, h3⟩ => ?_, fun hh => ?_⟩
     · rcases Nat.lt_or_ge b S.w.heap.size with hl | hl
       · exact .inl ⟨hl, h2, h3⟩
       · exact .inr ⟨hl, h1⟩
     · rcases hh with ⟨h1, h2, h3⟩ | ⟨h1, h2⟩
       · exact ⟨Nat.lt_of_lt_of_le h1 e.size, h2, h3⟩
       · exact ⟨h2, fun hx => by have := hX b hx; omega, fun hx => by have := hi0 b hx; omega⟩
   rw [ho]
   have hk : ∀ b, b < S.w.heap.size → ¬ (b < S.w.heap.size ∧ ¬ X b ∧ ¬ I.S0.im b) → S'.w.heap[b]? = S.w.heap[b]? := fun b hb hn => by
     by_cases hx : X b
     · exact e.kept b (.inr (h.keep b hx))
     · by_cases hi : I.S0.im b
       · exact e.kept b (.inl (h.im b hi))
       · exact absurd ⟨hb, hx, hi⟩ hn
   cases s with
   | some k => exact I.cJ k _ _ _ h.st e.os e.tape e.output e.size hk
   | none => obtain ⟨k, hj⟩ := h.st; exact ⟨k, I.cx k _ _ _ hj e.os e.tape e.output e.size hk⟩
theorem Now.round {I : Itr} {k : Nat} {X : Nat → Prop} {S : MS} {H : z02} (h : I.Now (some k) X S H) {W' : World} {s' : Option Nat} (hsz : S.w.heap.size ≤ W'.heap.size) (ho : ∀ b, b < S.w.heap.size ∧ ¬ X b ∧ ¬ I.S0.im b → W'.heap[b]? = S.w.heap[b]?)
   (hi : ∀ b, I.S0.im b → W'.heap[b]? = S.w.heap[b]?) (hst : I.at_ s' (fun b => b < S.w.heap.size ∧ ¬ X b ∧ ¬ I.S0.im b) W') :
   ∃ S', S'.w = W' ∧ I.Now s' (fun b => X b ∨ (S.w.heap.size ≤ b ∧ b < W'.heap.size)) S' H ∧ Evi S S' := by
 obtain ⟨S', hd⟩ : ∃ S' : MS, S' = { S with w := W', keep := fun b => S.keep b ∨ (S.w.heap.size ≤ b ∧ b < W'.heap.size) } := ⟨_, rfl⟩
 have hX : ∀ b, X b → b < S.w.heap.size := fun b hb => h.rel.im b (.inr (h.keep b hb))
 have him : ∀ b, S.im b → b < S.w.heap.size := fun b hb => h.rel.im b (.inl hb)
 have hi0 : ∀ b, I.S0.im b → b < S.w.heap.size := fun b hb => him b (h.im b hb)
 have hw : ∀ b, S.im b → W'.heap[b]? = S.w.heap[b]? := fun b hb => by
   by_cases h0 : I.S0.im b
   · exact hi b h0
   · exact ho b ⟨him b hb, (h.apart b hb).resolve_left h0, h0⟩
 refine ⟨S', by rw [hd], ⟨?_, ?_, ?_, ?_, ?_, ?_⟩, ?_⟩
 · subst hd
   exact h.rel.turn2 hw rfl rfl rfl rfl rfl rfl (fun b hb => hb.imp id And.left) (fun b hb => hb.elim (fun hh => Nat.lt_of_lt_of_le (h.rel.im b (.inr hh)) hsz) And.right)
     (fun b hb hl => ho b ⟨hl, fun hx => hb (.inr (h.keep b hx)), fun hx => hb (.inl (h.im b hx))⟩) hsz
 · subst hd; exact Nat.le_trans h.base hsz
 · subst hd; exact fun b hb => hb.imp (h.keep b) id
 · subst hd; exact h.im
 · subst hd
   intro b hb
   rcases h.apart b hb with hh | hh
   · exact .inl hh
   · exact .inr fun hx => hx.elim hh fun hx => by have := him b hb; omega
 · subst hd
   have e : (fun b => b < W'.heap.size ∧ ¬ (X b ∨ (S.w.heap.size ≤ b ∧ b < W'.heap.size)) ∧ ¬ I.S0.im b) = fun b => b < S.w.heap.size ∧ ¬ X b ∧ ¬ I.S0.im b := by
     funext b
     refine propext ⟨fun ⟨h1, h2, h3⟩ => ⟨?_, fun hx => h2 (.inl hx), h3⟩, fun ⟨h1, h2, h3⟩ => ⟨by omega, fun hx => hx.elim h2 (fun hh => by omega), h3⟩⟩
     rcases Nat.lt_or_ge b S.w.heap.size with hl | hl
     · exact hl
     · exact absurd (.inr ⟨hl, h1⟩) h2
   show I.at_ s' _ W'
   rw [e]
   exact hst
 · subst hd
   exact Evi.of hw rfl rfl rfl rfl rfl rfl
end Itr
def z9u (I : Itr) (n : Nat) (Q : Option Nat → Ex → Env → z02 → Prop) (e : Exit) (a : Act) (w : World) : Prop :=
 ∃ S' env H' x s X, S'.w = w ∧ I.Now s X S' H' ∧ FRel S' n env a ∧ a.defers = [] ∧ e = Ex.up x ∧ Q s x env H'
def TI (I : Itr) (n : Nat) (c : AC) (s : Option Nat) (env : Env) (H : z02) (Q : Option Nat → Ex → Env → z02 → Prop) : Prop :=
 ∀ code, z2z I.P n code = some c → ∀ S a X, I.Now s X S H → FRel S n env a → a.defers = [] → code.wpIn (fen none) (I.m + 1) I.P (z9u I n Q) a S.w
section
variable {I : Itr} {n : Nat} {s : Option Nat} {env : Env} {H : z02} {Q : Option Nat → Ex → Env → z02 → Prop}
theorem zzc {F : Fence} {mm : Nat} {c : Code} {a : Act} {w : World} (h : c.wpIn F mm I.P (z9u I n Q) a w) : (Code.scope c).wpIn F mm I.P (z9u I n Q) a w := by
 refine z5e (wpIn_mono h fun e a w hh => ?_)
 obtain ⟨S2, env, H', y, s, X, h1, h2, h3, h4, h5, h6⟩ := hh
 subst h5
 cases y <;> exact ⟨S2, env, H', _, s, X, h1, h2, h3, h4, rfl, h6⟩
theorem zhi {c : AC} (h : ∀ code, z2z I.P n code = some c → (∀ d, code ≠ .scope d) → ∀ S a X, I.Now s X S H → FRel S n env a → a.defers = [] → code.wpIn (fen none) (I.m + 1) I.P (z9u I n Q) a S.w) : TI I n c s env H Q := by
 intro code
 induction code with
 | scope d ih => exact fun hc S a X hN hF hd => zzc (ih (by simpa [z2z] using hc) S a X hN hF hd)
 | skip => exact fun hc => h _ hc (by simp)
 | region => exact fun hc => h _ hc (by simp)
 | seq => exact fun hc => h _ hc (by simp)
 | cond => exact fun hc => h _ hc (by simp)
 | block => exact fun hc => h _ hc (by simp)
 | loop => exact fun hc => h _ hc (by simp)
 | rangeFunc => exact fun hc => h _ hc (by simp)
 | exit => exact fun hc => h _ hc (by simp)
 | label => exact fun hc => h _ hc (by simp)
 | goto => exact fun hc => h _ hc (by simp)
 | ret => exact fun hc => h _ hc (by simp)
 | refuse => exact fun hc => h _ hc (by simp)
theorem y59 (h : Q s .normal env H) : TI I n .skip s env H Q := zhi fun code hc hs S a X hN hF hd => by
 have hA : z9u I n Q .normal a S.w := ⟨S, env, H, .normal, s, X, rfl, hN, hF, hd, rfl, h⟩
 cases code <;> simp only [z2z, reduceCtorEq, Option.some.injEq] at hc
 case skip => exact wpIn_skip hA
 case label => exact wpIn_label hA
 case region => exact absurd hc z1x
 case seq => split at hc <;> cases hc
 case cond => split at hc <;> cases hc
 case block => obtain ⟨_, _, h⟩ := Option.map_eq_some_iff.1 hc; cases h
 case loop => obtain ⟨_, _, h⟩ := Option.map_eq_some_iff.1 hc; cases h
 case rangeFunc => split at hc <;> cases hc
 case scope d => exact absurd rfl (hs d)
theorem y5a {id : Nat} (h : Q s (.exit id) env H) : TI I n (.exit id) s env H Q := zhi fun code hc hs S a X hN hF hd => by
 cases code <;> simp only [z2z, reduceCtorEq, Option.some.injEq] at hc
 case exit k => cases hc; exact wpIn_exit ⟨S, env, H, .exit id, s, X, rfl, hN, hF, hd, rfl, h⟩
 case region => exact absurd hc z1x
 case seq => split at hc <;> cases hc
 case cond => split at hc <;> cases hc
 case block => obtain ⟨_, _, h⟩ := Option.map_eq_some_iff.1 hc; cases h
 case loop => obtain ⟨_, _, h⟩ := Option.map_eq_some_iff.1 hc; cases h
 case rangeFunc => split at hc <;> cases hc
 case scope d => exact absurd rfl (hs d)
theorem y96 (h : Q s .ret env H) : TI I n .ret s env H Q := zhi fun code hc hs S a X hN hF hd => by
 cases code <;> simp only [z2z, reduceCtorEq, Option.some.injEq] at hc
 case ret => exact wpIn_ret ⟨S, env, H, .ret, s, X, rfl, hN, hF, hd, rfl, h⟩
 case region => exact absurd hc z1x
 case seq => split at hc <;> cases hc
 case cond => split at hc <;> cases hc
 case block => obtain ⟨_, _, h⟩ := Option.map_eq_some_iff.1 hc; cases h
 case loop => obtain ⟨_, _, h⟩ := Option.map_eq_some_iff.1 hc; cases h
 case rangeFunc => split at hc <;> cases hc
 case scope d => exact absurd rfl (hs d)
def Ex.thenI (K : Option Nat → Env → z02 → Prop) (Q : Option Nat → Ex → Env → z02 → Prop) : Option Nat → Ex → Env → z02 → Prop
 | s, .normal, env, H => K s env H
 | s, x, env, H => Q s x env H
theorem z8j {x y : AC} (h : TI I n x s env H (Ex.thenI (fun s' env' H' => TI I n y s' env' H' Q) Q)) : TI I n (.seq x y) s env H Q := zhi fun code hc hs S a X hN hF hd => by
 cases code <;> simp only [z2z, reduceCtorEq, Option.some.injEq] at hc
 case seq c d =>
   split at hc
   · rename_i x' y' hx hy
     cases hc
     refine wpIn_seq (wpIn_mono (h c hx S a X hN hF hd) fun e a' w' hh => ?_)
     obtain ⟨S2, env2, H2, z, s2, X2, rfl, hN2, hF2, hd2, rfl, hq⟩ := hh
     cases z with
     | normal => exact hq d hy S2 a' X2 hN2 hF2 hd2
     | exit id => exact ⟨S2, env2, H2, .exit id, s2, X2, rfl, hN2, hF2, hd2, rfl, hq⟩
     | ret => exact ⟨S2, env2, H2, .ret, s2, X2, rfl, hN2, hF2, hd2, rfl, hq⟩
   · cases hc
 case region => exact absurd hc z1x
 case cond => split at hc <;> cases hc
 case block => obtain ⟨_, _, h⟩ := Option.map_eq_some_iff.1 hc; cases h
 case loop => obtain ⟨_, _, h⟩ := Option.map_eq_some_iff.1 hc; cases h
 case rangeFunc => split at hc <;> cases hc
 case scope d => exact absurd rfl (hs d)
theorem y5b {c : AArg} {x y : AC} {q : Bool} (hc : c.eval env = .bool q) (ht : q = true → TI I n x s env H Q) (hf : q = false → TI I n y s env H Q) : TI I n (.cond c x y) s env H Q := zhi fun code hcc hs S a X hN hF hd => by
 cases code <;> simp only [z2z, reduceCtorEq, Option.some.injEq] at hcc
 case cond z p q' =>
   split at hcc
   · rename_i z' p2 q2 hz hp hq
     cases hcc
     have hv := zgr hF hz
     rw [hc] at hv
     exact wpIn_cond_split (t := q) hv (fun hbb => ht hbb p hp S a X hN hF hd) (fun hbb => hf hbb q' hq S a X hN hF hd)
   · cases hcc
 case region => exact absurd hcc z1x
 case seq => split at hcc <;> cases hcc
 case block => obtain ⟨_, _, h⟩ := Option.map_eq_some_iff.1 hcc; cases h
 case loop => obtain ⟨_, _, h⟩ := Option.map_eq_some_iff.1 hcc; cases h
 case rangeFunc => split at hcc <;> cases hcc
 case scope d => exact absurd rfl (hs d)
def Ex.inBlockI (id : Nat) (Q : Option Nat → Ex → Env → z02 → Prop) : Option Nat → Ex → Env → z02 → Prop
 | s, .exit k, env, H => if k = id then Q s .normal env H else Q s (.exit k) env H
 | s, x, env, H => Q s x env H
theorem z9v {id : Nat} {c : AC} (h : TI I n c s env H (Ex.inBlockI id Q)) : TI I n (.block id c) s env H Q := zhi fun code hc hs S a X hN hF hd => by
 cases code <;> simp only [z2z, reduceCtorEq, Option.some.injEq] at hc
 case block k d =>
   obtain ⟨x, hx, hh⟩ := Option.map_eq_some_iff.1 hc
   cases hh
   refine wpIn_block (wpIn_mono (h d hx S a X hN hF hd) fun e a' w' hh => ?_)
   obtain ⟨S2, env2, H2, z, s2, X2, h1, hN2, hF2, hd2, rfl, hq⟩ := hh
   cases z with
   | normal => exact ⟨S2, env2, H2, .normal, s2, X2, h1, hN2, hF2, hd2, rfl, hq⟩
   | exit j =>
     simp only [Ex.up, Exit.inBlock]
     simp only [Ex.inBlockI] at hq
     split
     · rename_i hj; rw [if_pos hj] at hq; exact ⟨S2, env2, H2, .normal, s2, X2, h1, hN2, hF2, hd2, rfl, hq⟩
     · rename_i hj; rw [if_neg hj] at hq; exact ⟨S2, env2, H2, .exit j, s2, X2, h1, hN2, hF2, hd2, rfl, hq⟩
   | ret => exact ⟨S2, env2, H2, .ret, s2, X2, h1, hN2, hF2, hd2, rfl, hq⟩
 case region => exact absurd hc z1x
 case seq => split at hc <;> cases hc
 case cond => split at hc <;> cases hc
 case loop => obtain ⟨_, _, h⟩ := Option.map_eq_some_iff.1 hc; cases h
 case rangeFunc => split at hc <;> cases hc
 case scope d => exact absurd rfl (hs d)
theorem zv1 {σ : Type} (Inv : σ → Option Nat → Env → z02 → Prop) (μ : σ → Nat) {c : AC} (s0 : σ) (h0 : Inv s0 s env H)
   (round : ∀ t s env H, Inv t s env H → TI I n c s env H (Ex.thenI (fun s' env' H' => ∃ t', Inv t' s' env' H' ∧ μ t' < μ t) Q)) : TI I n (.loop c) s env H Q := zhi fun code hc hs S a X hN hF hd => by
 cases code <;> simp only [z2z, reduceCtorEq, Option.some.injEq] at hc
 case loop d =>
   obtain ⟨x, hx, hh⟩ := Option.map_eq_some_iff.1 hc
   cases hh
   refine wpIn_loop_ghost (fun k a w => ∃ S' t s env H X, S'.w = w ∧ I.Now s X S' H ∧ FRel S' n env a ∧ a.defers = [] ∧ Inv t s env H ∧ μ t = k) (μ s0) ⟨S, s0, s, env, H, X, rfl, hN, hF, hd, h0, rfl⟩ ?_
   rintro k a w ⟨S1, t, s1, env1, H1, X1, rfl, hN1, hF1, hd1, hI, rfl⟩
   refine wpIn_mono (round t s1 env1 H1 hI d hx S1 a X1 hN1 hF1 hd1) fun e a' w' hh => ?_
   obtain ⟨S2, env2, H2, z, s2, X2, rfl, hN2, hF2, hd2, rfl, hq⟩ := hh
   cases z with
   | normal =>
     obtain ⟨t', h1, h2⟩ := hq
     exact ⟨μ t', h2, S2, t', s2, env2, H2, X2, rfl, hN2, hF2, hd2, h1, rfl⟩
   | exit id => exact ⟨S2, env2, H2, .exit id, s2, X2, rfl, hN2, hF2, hd2, rfl, hq⟩
   | ret => exact ⟨S2, env2, H2, .ret, s2, X2, rfl, hN2, hF2, hd2, rfl, hq⟩
 case region => exact absurd hc z1x
 case seq => split at hc <;> cases hc
 case cond => split at hc <;> cases hc
 case block => obtain ⟨_, _, h⟩ := Option.map_eq_some_iff.1 hc; cases h
 case rangeFunc => split at hc <;> cases hc
 case scope d => exact absurd rfl (hs d)
theorem y97 {ops : List AOp} (h : runK I.P ops env H fun env' H' => Q s .normal env' H') : TI I n (.reg ops) s env H Q := zhi fun code hc hs S a X hN hF hd => by
 cases code <;> simp only [z2z, reduceCtorEq, Option.some.injEq] at hc
 case region id l draw =>
   split at hc
   · rename_i r hr
     obtain ⟨hd', rfl⟩ := z8u hc
     subst hd'
     refine wpIn_region ?_
     have := z6d (ops := l) (rd := none) (m := I.m + 1) (Q := z9u I n Q) [] l.toList ops 0 (by simp) hr hN.rel hF h (fun S' H' env' a' e hS' hF' hdd hK => ⟨S', env', H', .normal, s, X, rfl, hN.on e hS', hF', hdd.trans hd, rfl, hK⟩)
     rw [List.range_eq_range']
     simpa using this
   · cases hc
 case seq => split at hc <;> cases hc
 case cond => split at hc <;> cases hc
 case block => obtain ⟨_, _, h⟩ := Option.map_eq_some_iff.1 hc; cases h
 case loop => obtain ⟨_, _, h⟩ := Option.map_eq_some_iff.1 hc; cases h
 case rangeFunc => split at hc <;> cases hc
 case scope d => exact absurd rfl (hs d)
theorem zfm {α β : Type} {f : α → Option β} : ∀ (p : List β) {l : List α} {y : β} {q : List β}, l.mapM f = some (p ++ y :: q) → ∃ l1 o l2, l = l1 ++ o :: l2 ∧ l1.mapM f = some p ∧ f o = some y ∧ l2.mapM f = some q
 | [], l, y, q, h => by
   cases l with
   | nil => simp at h
   | cons o l =>
     rw [List.mapM_cons] at h
     simp only [Option.bind_eq_bind, Option.bind_eq_some_iff, Option.pure_def, Option.some.injEq, List.nil_append, List.cons.injEq] at h
     obtain ⟨y', hy, r, hr, rfl, rfl⟩ := h
     exact ⟨[], o, l, rfl, rfl, hy, hr⟩
 | z :: p, l, y, q, h => by
   cases l with
   | nil => simp at h
   | cons o l =>
     rw [List.mapM_cons] at h
     simp only [Option.bind_eq_bind, Option.bind_eq_some_iff, Option.pure_def, Option.some.injEq, List.cons_append, List.cons.injEq] at h
     obtain ⟨z', hz, r, hr, rfl, rfl⟩ := h
     obtain ⟨l1, o', l2, rfl, h1, h2, h3⟩ := zfm p hr
     exact ⟨o :: l1, o', l2, rfl, by rw [List.mapM_cons, hz, h1]; rfl, h2, h3⟩
theorem zqu {P : Program} {op : Op} (h : z4j P op = some .call) : ∃ g args argTypes, op = .call { callee := .value g, args, argTypes } := by
 cases op
 case call c =>
   obtain ⟨callee, args, argTypes⟩ := c
   cases callee <;> simp only [z4j, z44, reduceCtorEq] at h
   case value g => exact ⟨g, args, argTypes, rfl⟩
   case builtin b =>
     repeat' split at h
     all_goals first
       | (cases h; done)
       | (simp at h; done)
 all_goals simp only [z4j, reduceCtorEq] at h
 all_goals repeat' split at h
 all_goals first
   | contradiction
   | (cases h; done)
   | (obtain ⟨⟨_, _⟩, _, h⟩ := Option.map_eq_some_iff.1 h; cases h; done)
   | (obtain ⟨_, _, h⟩ := Option.map_eq_some_iff.1 h; cases h; done)
   | (simp at h; done)
def y98 (x : AV) : Prop := ∀ S v, VRel S x v → v = valOf x
theorem zfn {S : MS} : ∀ {xs : List AV} {vs : List Value}, (∀ x ∈ xs, y98 x) → z03 S xs vs → vs = xs.map valOf
 | [], vs, _, h => h
 | x :: xs, vs, hf, ⟨v, r, hv, h1, h2⟩ => by
   rw [hv, hf x (by simp) S v h1, zfn (fun y hy => hf y (by simp [hy])) h2]
   rfl
theorem zzd {pre post : List AOp} {y : AOp} {k : Nat} (hk : y.k = .call) (hg : y.guard = none)
   (h : runK I.P pre env H fun env1 H1 => ∃ row, y.vals env1 = .yld I.l :: row ∧ (∀ x ∈ row, y98 x) ∧ I.rows[k]? = some row ∧
     runK I.P post (env1.put y.dst (.bool true)) H1 (fun env2 H2 => Q (some (k + 1)) .normal env2 H2) ∧ runK I.P post (env1.put y.dst (.bool false)) H1 (fun env2 H2 => Q none .normal env2 H2)) :
   TI I n (.reg (pre ++ y :: post)) (some k) env H Q := zhi fun code hc hs S a X hN hF hd => by
 cases code <;> simp only [z2z, reduceCtorEq, Option.some.injEq] at hc
 case region id l draw =>
   split at hc
   · rename_i r hr
     obtain ⟨hd', hrr⟩ := z8u hc
     subst hrr
     subst hd'
     refine wpIn_region ?_
     obtain ⟨l1, o, l2, hl, h1, h2, h3⟩ := zfm pre hr
     have hsz : l.size = l1.length + (l2.length + 1) := by rw [← Array.length_toList, hl]; simp
     rw [List.range_eq_range', hsz, List.range'_append_1 |>.symm]
     have hat : ∀ j : Nat, l[j]? = (l1 ++ o :: l2)[j]? := fun j => by rw [← hl, Array.getElem?_toList]
     refine z6d (ops := l) (rd := none) (m := I.m + 1) (Q := z9u I n Q) _ l1 pre 0 (fun j hj => by rw [Nat.zero_add, hat, List.getElem?_append_left hj]) h1 hN.rel hF h (fun S1 H1 env1 a1 e1 hS1 hF1 hd1 hK => ?_)
     obtain ⟨row, hv, hfx, hrow, ht, hff⟩ := hK
     have hN1 := hN.on e1 hS1
     have ho : l[l1.length]? = some o := by rw [hat]; simp
     rw [show List.range' (0 + l1.length) (l2.length + 1) = l1.length :: List.range' (l1.length + 1) l2.length from by rw [Nat.zero_add]; rfl]
     simp only [wpOpsIn, ho]
     obtain ⟨c1, c2, c3, c4, c5⟩ := z0t h2
     have hw : Region.wanted o (yielded l a1.tmps) = true := by
       rcases c5 with ⟨g1, _⟩ | ⟨j, want, d, g1, g2, _⟩
       · simp [Region.wanted, g1]
       · rw [hg] at g2; cases g2
     rw [hw]
     simp only [if_true]
     have hargs := z9e hF1 c2
     rw [show y.args.map (·.eval env1) = y.vals env1 from rfl, hv] at hargs
     rw [hk] at c1
     obtain ⟨g, args, argTypes, hop⟩ := zqu c1
     obtain ⟨fn, tm, asg, bd, hy, hR⟩ := I.round k row _ _ hrow hN1.st
     have hrun : (o.semAt (fen none).round a1.eval).run I.P S1.w = .ok (.round I.l fn tm asg bd) S1.w := by
       rw [show (fen none).round = none from rfl, Oper.semAt_none]
       rw [hop] at hargs
       have hargs' : z03 S1 (.yld I.l :: row) (a1.eval g :: args.toList.map a1.eval) := by simpa [Op.operands, Call.operands] using hargs
       obtain ⟨v, vs, hvv, hv1, hv2⟩ := hargs'
       cases hvv
       have hvs := zfn hfx hv2
       have hv1' : a1.eval g = .func (.yield I.l) #[] #[] := hv1
       have e : args.map a1.eval = encI row := by apply Array.ext'; simp [hvs]
       have hex : execOp a1.eval o = (do let d ← Deferred.ofValue (a1.eval g) (args.map a1.eval); invoke d.target d.args : Sem Next) := by
         cases o
         simp only at hop
         subst hop
         rfl
       rw [hex, e, hv1']
       simp only [Deferred.ofValue, Sem.run_bind, Sem.run_pure, Result.andThen_ok, invoke]
       simpa using hy
     refine ⟨fun _ _ => trivial, ?_⟩
     rw [hrun, Oper.uponIn_round]
     refine ⟨fun h => (by cases h), ?_⟩
     refine RoundIn.mono (F := fen none) (n := I.m) hR fun e W' hh => ?_
     obtain ⟨hsz', ho', hcase⟩ := hh
     have hf0 := (I.fact k _ _ (.inl hN1.st)).1
     have hdef : a1.defers = [] := hd1.trans hd
     have hgo : ∀ (bv : Bool) (s' : Option Nat), I.at_ s' (fun b => b < S1.w.heap.size ∧ ¬ X b ∧ ¬ I.S0.im b) W' → (∀ b, I.S0.im b → W'.heap[b]? = I.S0.w.heap[b]?) →
         runK I.P post (env1.put y.dst (.bool bv)) H1 (fun env2 H2 => Q s' .normal env2 H2) → wpOpsIn (fen none) (I.m + 1) I.P l (z9u I n Q) (List.range' (l1.length + 1) l2.length) (a1.put o.dst (.bool bv)) W' := fun bv s' hst him hrk => by
       obtain ⟨S2, hw2, hN2, ev2⟩ := hN1.round hsz' ho' (fun b hb => (him b hb).trans ((hf0 b hb).2).symm) hst
       have hF2 : FRel S2 n env1 a1 := ⟨hF1.size, by rw [hdef]; exact Marks.nil hN2.base, fun i hi => VRel.moni ev2 _ (hF1.val i hi)⟩
       have hF3 := hF2.put (dst := y.dst) (by rw [c3]; exact c4) (x := .bool bv) (v := .bool bv) rfl
       rw [c3] at hF3
       rw [c3] at hrk
       rw [← hw2]
       have := z6d (ops := l) (rd := none) (m := I.m + 1) (Q := z9u I n Q) [] l2 post (l1.length + 1) (fun j hj => by rw [hat, List.getElem?_append_right (by omega), show l1.length + 1 + j - l1.length = j + 1 from by omega]; rfl) h3 hN2.rel hF3 hrk
         (fun S' H' env' a' e hS' hF' hdd hK => ⟨S', env', H', .normal, s', _, rfl, hN2.on e hS', hF', hdd.trans ((put_defers _ _ _).trans hdef), rfl, hK⟩)
       simpa using this
     rcases hcase with ⟨rfl, hj⟩ | ⟨rfl, hj⟩
     · exact hgo true (some (k + 1)) hj (fun b hb => ((I.fact _ _ _ (.inl hj)).1 b hb).2) ht
     · exact hgo false none ⟨_, hj⟩ (fun b hb => ((I.fact _ _ _ (.inr hj)).1 b hb).2) hff
   · cases hc
 case seq => split at hc <;> cases hc
 case cond => split at hc <;> cases hc
 case block => obtain ⟨_, _, h⟩ := Option.map_eq_some_iff.1 hc; cases h
 case loop => obtain ⟨_, _, h⟩ := Option.map_eq_some_iff.1 hc; cases h
 case rangeFunc => split at hc <;> cases hc
 case scope d => exact absurd rfl (hs d)
theorem y5c {P : Program} {gf : Nat} {caps : List AV} {rows : List (List AV)} {fn : AFn} (hf : z0k P gf (caps.length + 1) = some fn)
   (h : ∀ I : Itr, I.P = P → I.rows = rows → TI I fn.n fn.body (some 0) (entry (.yld I.l :: caps)) z02.nil (fun s x env H => Ret P fn.res (fun _ _ => True) x env H ∧ (s = some rows.length ∨ s = none))) : zo0 P gf caps rows := by
 refine ⟨enters_of hf, fun m l S0 lb J Jx hS0 hx0 cJ cx hj fact round => ?_⟩
 obtain ⟨F, c, hF, hb, hn, hc, hr, hnp, _⟩ := z8w hf
 obtain ⟨S, hSd⟩ : ∃ S : MS, S = { S0 with base := S0.w.heap.size, keep := fun b => b < S0.w.heap.size ∧ ¬ S0.im b } := ⟨_, rfl⟩
 have ev0 : Evi S0 S := by subst hSd; exact Evi.of (fun _ _ => rfl) rfl rfl rfl rfl rfl rfl
 have hw0 : S.w = S0.w := by rw [hSd]
 have hS : SRel S z02.nil := by
   subst hSd
   exact ⟨hS0.n, fun g hg => absurd hg (Nat.not_lt_zero _), fun g _ hg => absurd hg (Nat.not_lt_zero _), fun b hb => hb.elim (fun h => hS0.im b (.inl h)) And.left⟩
 have hx : z03 S caps lb := z03.moni ev0 _ hx0
 have hlen := hx.length
 let I : Itr := ⟨P, l, m, rows, S0, J, Jx, cJ, cx, fact, round⟩
 have hN : I.Now (some 0) (fun b => b < S0.w.heap.size ∧ ¬ S0.im b) S z02.nil := by
   refine ⟨hS, by rw [hSd]; exact Nat.le_refl _, fun b hb => by rw [hSd]; exact hb, fun b hb => by rw [hSd]; exact hb, fun b hb => .inl (by rw [hSd] at hb; exact hb), ?_⟩
   have e : (fun b => b < S.w.heap.size ∧ ¬ (b < S0.w.heap.size ∧ ¬ S0.im b) ∧ ¬ I.S0.im b) = fun _ => False := by
     funext b
     refine propext ⟨fun ⟨h1, h2, h3⟩ => h2 ⟨by rw [hw0] at h1; exact h1, h3⟩, False.elim⟩
   rw [e, hw0]
   exact hj
 refine callsIn_of_wp_marks (F := Fence.wide) (n := m + 1) hF hb trivial ?_
 have hfr : FRel S fn.n (entry (.yld l :: caps)) { tmps := (#[Value.func (.yield l) #[] #[]] ++ lb.toArray) ++ Array.replicate (F.ntmps - (#[Value.func (.yield l) #[] #[]] ++ lb.toArray).size) undef, defers := [] } := by
   have hx' : z03 S (.yld l :: caps) (.func (.yield l) #[] #[] :: lb) := ⟨_, _, rfl, rfl, hx⟩
   refine ⟨by simp; omega, Marks.nil hN.base, fun i hi => ?_⟩
   by_cases hlt : i < (AV.yld l :: caps).length
   · obtain ⟨v, hv, hr⟩ := hx'.get (List.getElem?_eq_getElem hlt)
     have e1 : entry (.yld l :: caps) i = (AV.yld l :: caps)[i] := by simp [entry, List.getD, List.getElem?_eq_getElem hlt]
     have e2 : ((#[Value.func (.yield l) #[] #[]] ++ lb.toArray) ++ Array.replicate (F.ntmps - (#[Value.func (.yield l) #[] #[]] ++ lb.toArray).size) undef).getD i undef = v := by
       have hsz : i < (#[Value.func (.yield l) #[] #[]] ++ lb.toArray).size := by simp at hlt ⊢; omega
       rw [Array.getD_eq_getD_getElem?, Array.getElem?_append_left hsz]
       have : (#[Value.func (.yield l) #[] #[]] ++ lb.toArray)[i]? = (Value.func (.yield l) #[] #[] :: lb)[i]? := by simp
       rw [this, hv]; rfl
     rw [e1, e2]
     exact hr
   · have e1 : entry (.yld l :: caps) i = .any := by simp [entry, List.getD, List.getElem?_eq_none (Nat.le_of_not_lt hlt)]
     rw [e1]
     trivial
 rw [← hw0]
 refine wpIn_mono (h I rfl rfl c hc S _ _ hN hfr rfl) fun e a w' hh => ?_
 obtain ⟨S2, env2, H2, z, s2, X2, rfl, hN2, hF2, hd2, rfl, ⟨hq, hres⟩, hst⟩ := hh
 have fin : LeavesInM Fence.wide (m + 1) P F a.tmps (fun e W' => (∃ v, e = .returned v) ∧ ((∃ O, J rows.length O W') ∨ ∃ k O, Jx k O W')) a.defers .returning S2.w := by
   rw [hd2]
   refine z78 [] S2.w List.nodup_nil (fun D hd => by cases hd) ?_
   obtain ⟨vs, ys, h1, h2, h3⟩ := z7v hN2.rel hF2 hr hres
   refine ⟨if h : vs.toArray.size = 1 then vs.toArray[0] else .tuple vs.toArray, ?_, ⟨_, rfl⟩, ?_⟩
   · have e : results F a.tmps = (do let vs ← F.results.mapM (zf5 a.tmps); pure (if h : vs.size = 1 then vs[0] else .tuple vs)) := by
       unfold results
       congr
     rw [e, Array.mapM_eq_mapM_toList]
     show Sem.run P _ S2.w = _
     simp only [Sem.run_bind, Sem.run_map, h1, Result.andThen_ok, Sem.run_pure]
     rfl
   · have := hN2.st
     rcases hst with rfl | rfl
     · exact .inl ⟨_, this⟩
     · obtain ⟨k, hk⟩ := this; exact .inr ⟨k, _, hk⟩
 cases z with
 | normal => exact fin
 | exit id => exact hq.elim
 | ret => exact fin
end
end Go.Proofs.Yticodgjinajkpaa.Abs
namespace Go.Proofs.Yticodgjinajkpaa
open Abs
def domL (s : Int) : List Span := if s = 1 then [⟨0, 255⟩] else if s = 2 then [⟨0, 55295⟩, ⟨57344, 1114111⟩] else []
theorem z82 (a : Int) : PC Try.prog 58 [.int .i64 a] (z2d ⟨a, 0, 21, 0⟩) := by
 refine z0v zjs ?_
 unfold zbc
 (repeat' (first | (simp (disch := omega) only [push_cast, ↓zz, seval]) | (with_reducible first | refine And.intro ?_ ?_ | (first | refine z01 ?_ ?_ | refine z00 ?_ ?_) <;> intro hc <;> (try simp only [push_cast] at hc)) | omega | with_reducible intro _))
def z60 (p : Part) : Bool := decide (0 ≤ p.drop ∧ p.drop < 21 ∧ 1 ≤ p.take ∧ p.take ≤ 21 ∧ 0 ≤ p.up ∧ p.up < 21 ∧ (p.up = 0 ∨ p.take ≤ 6))
theorem z6e (p : Part) : PC Try.prog 99 [z2d p] (.bool (z60 p)) := by
 refine z0v zm0 ?_
 unfold zdc
 (repeat' (first | (simp (disch := omega) only [push_cast, ↓zz, seval]) | (with_reducible first | refine And.intro ?_ ?_ | (first | refine z01 ?_ ?_ | refine z00 ?_ ?_) <;> intro hc <;> (try simp only [push_cast] at hc)) | omega | with_reducible intro _))
 all_goals (unfold z60; first | (refine y15 ?_; omega) | (refine y16 ?_; omega) | (refine zlj ?_; omega))
def z4z (p : Part) (n : Int) : Bool := decide (0 ≤ p.at_ ∧ p.at_ < n) && z60 p
theorem z83 (p : Part) (n : Int) : PC Try.prog 78 [z2d p, .int .i64 n] (.bool (z4z p n)) := by
 refine z0v zjx ?_
 unfold zbh
 (repeat' (first | (simp (disch := omega) only [push_cast, ↓zz, seval]) | (with_reducible first | refine And.intro ?_ ?_ | (first | refine z01 ?_ ?_ | refine z00 ?_ ?_) <;> intro hc <;> (try simp only [push_cast] at hc)) | (have q_ := z6e p; (with_reducible first | refine eK q_ ?_ | refine eQ q_ ?_ | refine eG q_ ?_); clear q_) | (have q_ := z6e p; (with_reducible first | refine cK q_ ?_ | refine cQ q_ ?_ | refine cG q_ ?_); clear q_; (simp (disch := omega) only [push_cast, ↓zz, seval]); (fail_if_success (with_reducible change False))) | omega | with_reducible intro _))
 all_goals (simp [z4z, *] <;> omega)
def valP (p : Part) (x : Int) : Int := x / 2 ^ p.drop.toNat % 2 ^ p.take.toNat * 2 ^ p.up.toNat
def valB (p : Part) (x : Int) : Bool := z60 p && decide (0 ≤ x ∧ x ≤ 2097151)
def val1 (p : Part) (x : Int) : Int := if valB p x then valP p x else 0
abbrev valV (p : Part) (x : Int) : AV := .tup [.int .i64 (val1 p x), .bool (valB p x)]
theorem zc3 {p : Part} : z60 p = true ↔ (0 ≤ p.drop ∧ p.drop < 21 ∧ 1 ≤ p.take ∧ p.take ≤ 21 ∧ 0 ≤ p.up ∧ p.up < 21 ∧ (p.up = 0 ∨ p.take ≤ 6)) := by simp [z60]
theorem zdj (d : Nat) (h : d ≤ 21) : (1 : Int) ≤ 2 ^ d ∧ (2 : Int) ^ d ≤ 2097152 :=
 ⟨Int.pow_pos (by decide), by have := Nat.pow_le_pow_right (n := 2) (by decide) h; have e : ((2 ^ d : Nat) : Int) = 2 ^ d := (by simp); rw [← e]; omega⟩
theorem zze {p : Part} {x : Int} (hb : z60 p = true) (hx : 0 ≤ x ∧ x ≤ 2097151) :
   IntKind.i64.wrap (z8b .and .i64 (x.fdiv (2 ^ min p.drop.toNat IntKind.i64.bits)) (IntKind.i64.wrap (IntKind.i64.wrap (1 * 2 ^ min p.take.toNat IntKind.i64.bits) - 1)) * 2 ^ min p.up.toNat IntKind.i64.bits) = valP p x := by
 rw [zc3] at hb
 have e1 : min p.drop.toNat IntKind.i64.bits = p.drop.toNat := Nat.min_eq_left (by show _ ≤ 64; omega)
 have e2 : min p.take.toNat IntKind.i64.bits = p.take.toNat := Nat.min_eq_left (by show _ ≤ 64; omega)
 have e3 : min p.up.toNat IntKind.i64.bits = p.up.toNat := Nat.min_eq_left (by show _ ≤ 64; omega)
 rw [e1, e2, e3]
 have hd := zdj p.drop.toNat (by omega)
 have ht := zdj p.take.toNat (by omega)
 have hu := zdj p.up.toNat (by omega)
 rw [Int.one_mul, IntWalk.i64_in (2 ^ p.take.toNat) (by omega), IntWalk.i64_in (2 ^ p.take.toNat - 1) (by omega), zsy _ _ (by omega)]
 have q0 : 0 ≤ x / 2 ^ p.drop.toNat := Int.ediv_nonneg hx.1 (by omega)
 have q1 : x / 2 ^ p.drop.toNat ≤ x := Int.ediv_le_self _ hx.1
 have m0 := Int.emod_nonneg (x / 2 ^ p.drop.toNat) (b := 2 ^ p.take.toNat) (by omega)
 have m1 := Int.emod_lt_of_pos (x / 2 ^ p.drop.toNat) (b := 2 ^ p.take.toNat) (by omega)
 rw [zsz p.take.toNat ⟨q0, by show _ < (2 : Int) ^ 64; omega⟩ (by show _ ≤ 64; omega) (IntWalk.i64_in _ (by omega))]
 refine IntWalk.i64_in _ ?_
 have : x / 2 ^ p.drop.toNat % 2 ^ p.take.toNat * 2 ^ p.up.toNat ≤ 2097152 * 2097152 := Int.mul_le_mul (by omega) (by omega) (by omega) (by omega)
 have : 0 ≤ x / 2 ^ p.drop.toNat % 2 ^ p.take.toNat * 2 ^ p.up.toNat := Int.mul_nonneg (by omega) (by omega)
 omega
theorem y5d {p : Part} {x : Int} (hb : z60 p = true) (hx : 0 ≤ x ∧ x ≤ 2097151) : valB p x = true ∧ val1 p x = valP p x := by
 have : valB p x = true := by simp only [valB, hb, Bool.true_and, decide_eq_true_eq]; exact hx
 exact ⟨this, by rw [val1, this]; rfl⟩
theorem y99 {p : Part} {x : Int} (h : z60 p = false ∨ x < 0 ∨ 2097151 < x) : valB p x = false ∧ val1 p x = 0 := by
 have : valB p x = false := by
   simp only [valB, Bool.and_eq_false_iff, decide_eq_false_iff_not]
   rcases h with h | h
   · exact .inl h
   · exact .inr (by omega)
 exact ⟨this, by rw [val1, this]; rfl⟩
theorem zv2 {p : Part} {x : Int} (h : z60 p = false ∨ x < 0 ∨ 2097151 < x) : valV p x = .tup [.int .i64 0, .bool false] := by
 obtain ⟨h1, h2⟩ := y99 h
 simp only [valV, h1, h2]
theorem y5e {p : Part} {x : Int} (hb : z60 p = true) (hx : 0 ≤ x ∧ x ≤ 2097151) : valV p x = .tup [.int .i64 (valP p x), .bool true] := by
 obtain ⟨h1, h2⟩ := y5d hb hx
 simp only [valV, h1, h2]
theorem zqv (p : Part) (x : Int) : PC Try.prog 124 [z2d p, .int .i64 x] (valV p x) := by
 refine z0v zk3 ?_
 unfold zbo
 (repeat' (first | (simp (disch := omega) only [push_cast, ↓zz, seval]) | (with_reducible first | refine And.intro ?_ ?_ | (first | refine z01 ?_ ?_ | refine z00 ?_ ?_) <;> intro hc <;> (try simp only [push_cast] at hc)) | (have q_ := z6e p; (with_reducible first | refine eK q_ ?_ | refine eQ q_ ?_ | refine eG q_ ?_); clear q_) | (have q_ := z6e p; (with_reducible first | refine cK q_ ?_ | refine cQ q_ ?_ | refine cG q_ ?_); clear q_; (simp (disch := omega) only [push_cast, ↓zz, seval]); (fail_if_success (with_reducible change False))) | omega | with_reducible intro _))
 all_goals first | (have hb := zc3.1 ‹z60 p = true›; omega) | (rw [zv2 (.inl ‹_›)]; (repeat' (first | (simp (disch := omega) only [push_cast, ↓zz, seval, z1q]) | omega | (with_reducible refine And.intro ?_ ?_))); done) | (rw [zv2 (.inr (by omega))]; (repeat' (first | (simp (disch := omega) only [push_cast, ↓zz, seval, z1q]) | omega | (with_reducible refine And.intro ?_ ?_))); done) | (rw [y5e ‹_› (by omega)]; (repeat' (first | (simp (disch := omega) only [push_cast, ↓zz, seval, z1q]) | omega | (with_reducible refine And.intro ?_ ?_))); exact zze ‹_› (by omega))
theorem z3s (s : Int) : PC Try.prog 37 [.int .i64 s] (z06 (domL s)) := by
 refine z0v zhc ?_
 unfold z9p
 (repeat' (first | (simp (disch := omega) only [push_cast, ↓zz, seval]) | (with_reducible first | refine And.intro ?_ ?_ | (first | refine z01 ?_ ?_ | refine z00 ?_ ?_) <;> intro hc <;> (try simp only [push_cast] at hc)) | omega | with_reducible intro _))
 all_goals (simp only [domL, *]; rfl)
abbrev Term.outer (t : Term) : Part := ⟨0, t.drop, t.take, t.up⟩
theorem z6f (t : Term) : PC Try.prog 83 [z1s t] (z2d t.outer) := by
 refine z0v zk0 ?_
 unfold zbl
 (repeat' (first | (simp (disch := omega) only [push_cast, ↓zz, seval]) | (with_reducible first | refine And.intro ?_ ?_ | (first | refine z01 ?_ ?_ | refine z00 ?_ ?_) <;> intro hc <;> (try simp only [push_cast] at hc)) | omega | with_reducible intro _))
def zos (t : Term) : Bool := decide (t.base = 0 ∧ t.drop = 0 ∧ t.take = 21 ∧ t.up = 0)
def z9w (p : Part) : Bool := decide (p.drop = 0 ∧ p.take = 21 ∧ p.up = 0)
theorem zfo (t : Term) : PC Try.prog 79 [z1s t] (.bool (zos t)) := by
 refine z0v zjy ?_
 unfold zbi
 (repeat' (first | (simp (disch := omega) only [push_cast, ↓zz, seval]) | (with_reducible first | refine And.intro ?_ ?_ | (first | refine z01 ?_ ?_ | refine z00 ?_ ?_) <;> intro hc <;> (try simp only [push_cast] at hc)) | (have q_ := z6f t; (with_reducible first | refine eK q_ ?_ | refine eQ q_ ?_ | refine eG q_ ?_); clear q_) | (have q_ := z82 0; (with_reducible first | refine eK q_ ?_ | refine eQ q_ ?_ | refine eG q_ ?_); clear q_) | (have q_ := z6f t; (with_reducible first | refine cK q_ ?_ | refine cQ q_ ?_ | refine cG q_ ?_); clear q_; (simp (disch := omega) only [push_cast, ↓zz, seval]); (fail_if_success (with_reducible change False))) | (have q_ := z82 0; (with_reducible first | refine cK q_ ?_ | refine cQ q_ ?_ | refine cG q_ ?_); clear q_; (simp (disch := omega) only [push_cast, ↓zz, seval]); (fail_if_success (with_reducible change False))) | omega | with_reducible intro _))
 all_goals (simp [zos, z9w, Term.outer, *])
def z1u (x : Int) : Bool := decide (-1114111 ≤ x ∧ x ≤ 1114111)
theorem z84 (x : Int) : PC Try.prog 97 [.int .i64 x] (.bool (z1u x)) := by
 refine z0v zk1 ?_
 unfold zbm
 (repeat' (first | (simp (disch := omega) only [push_cast, ↓zz, seval]) | (with_reducible first | refine And.intro ?_ ?_ | (first | refine z01 ?_ ?_ | refine z00 ?_ ?_) <;> intro hc <;> (try simp only [push_cast] at hc)) | omega | with_reducible intro _))
 all_goals (unfold z1u; first | (refine y15 ?_; omega) | (refine y16 ?_; omega) | (refine zlj ?_; omega))
def zbp : List Part → Bool
 | p :: q :: l => decide (p.up < q.up) && zbp (q :: l)
 | _ => true
theorem zhj : ∀ {l : List Part} {i : Nat}, i + 1 < l.length → zbp (l.drop i) = (decide ((nth l i).up < (nth l (i + 1)).up) && zbp (l.drop (i + 1)))
 | [], i, h => by simp at h
 | [p], i, h => by simp at h
 | p :: q :: l, 0, _ => rfl
 | p :: q :: l, i + 1, h => by
   exact zhj (l := q :: l) (i := i) (by simpa using h)
theorem zv3 {l : List Part} {i : Nat} (h : l.length ≤ i + 1) : zbp (l.drop i) = true := by
 match hl : l.drop i with
 | [] => rfl
 | [p] => rfl
 | p :: q :: r => have := congrArg List.length hl; simp at this; omega
theorem zdk (l : List Part) (hl : l.length < 1000000000000) : PC Try.prog 98 [z0s l] (.bool (zbp l && decide (l.length ≤ 4))) := by
 refine z0v zhf ?_
 unfold z9t
 (repeat' (first | (simp (disch := omega) only [push_cast, ↓zz, seval]) | (with_reducible first | refine And.intro ?_ ?_ | (first | refine z01 ?_ ?_ | refine z00 ?_ ?_) <;> intro hc <;> (try simp only [push_cast] at hc)) | omega | with_reducible intro _))
 refine z0n (z0p (fun (i : Nat) => i ≤ l.length ∧ zbp l = zbp (l.drop (i - 1))) (fun i => l.length - i) (fun i => [(0, z0s l), (5, z0s l), (6, .int .i64 l.length), (7, .int .i64 i)]) (fun _ => []) (fun _ _ => []) 0 (by simp) ?_ ?_)
 · (repeat' (first | (simp (disch := omega) only [push_cast, ↓zz, seval]) | (with_reducible first | refine And.intro ?_ ?_ | (first | refine z01 ?_ ?_ | refine z00 ?_ ?_) <;> intro hc <;> (try simp only [push_cast] at hc)) | omega | with_reducible intro _))
 rintro i ⟨hi, hr⟩
 refine W_T ?_
 (repeat' (first | (simp (disch := omega) only [push_cast, ↓zz, seval]) | (with_reducible first | refine And.intro ?_ ?_ | (first | refine z01 ?_ ?_ | refine z00 ?_ ?_) <;> intro hc <;> (try simp only [push_cast] at hc)) | omega | with_reducible intro _))
 · rename_i h1 h2
   rw [hr, zhj (i := i - 1) (by omega), show i - 1 + 1 = i by omega]
   have : ¬ (nth l (i - 1)).up < (nth l i).up := by omega
   simp [this]
 · refine ⟨i + 1, ?_⟩
   (repeat' (first | (simp (disch := omega) only [push_cast, ↓zz, seval]) | (with_reducible first | refine And.intro ?_ ?_ | (first | refine z01 ?_ ?_ | refine z00 ?_ ?_) <;> intro hc <;> (try simp only [push_cast] at hc)) | omega | with_reducible intro _))
   rw [hr, zhj (i := i - 1) (by omega), show i - 1 + 1 = i by omega]
   have : (nth l (i - 1)).up < (nth l i).up := by omega
   simp [this]
 · refine ⟨i + 1, ?_⟩
   (repeat' (first | (simp (disch := omega) only [push_cast, ↓zz, seval]) | (with_reducible first | refine And.intro ?_ ?_ | (first | refine z01 ?_ ?_ | refine z00 ?_ ?_) <;> intro hc <;> (try simp only [push_cast] at hc)) | omega | with_reducible intro _))
   obtain rfl : i = 0 := by omega
   exact hr
 · rw [hr, zv3 (i := i - 1) (by omega), Bool.true_and]
   exact zlj (by omega)
def z4e (t : Term) : Bool := z1u t.base && z1u t.sum && z60 t.outer && (zbp t.parts && decide (t.parts.length ≤ 4))
theorem zm6 (t : Term) : z4z t.outer 1 = z60 t.outer := by simp [z4z]
theorem zdl (t : Term) : PC Try.prog 78 [z2d t.outer, .int .i64 1] (.bool (z60 t.outer)) := by rw [← zm6]; exact z83 t.outer 1
theorem z7h (t : Term) (hl : t.parts.length < 1000000000000) : PC Try.prog 77 [z1s t] (.bool (z4e t)) := by
 refine z0v zen ?_
 unfold z8h
 (repeat' (first | (simp (disch := omega) only [push_cast, ↓zz, seval]) | (with_reducible first | refine And.intro ?_ ?_ | (first | refine z01 ?_ ?_ | refine z00 ?_ ?_) <;> intro hc <;> (try simp only [push_cast] at hc)) | (have q_ := z84 t.base; (with_reducible first | refine eK q_ ?_ | refine eQ q_ ?_ | refine eG q_ ?_); clear q_) | (have q_ := z84 t.sum; (with_reducible first | refine eK q_ ?_ | refine eQ q_ ?_ | refine eG q_ ?_); clear q_) | (have q_ := z6f t; (with_reducible first | refine eK q_ ?_ | refine eQ q_ ?_ | refine eG q_ ?_); clear q_) | (have q_ := zdl t; (with_reducible first | refine eK q_ ?_ | refine eQ q_ ?_ | refine eG q_ ?_); clear q_) | (have q_ := zdk t.parts hl; (with_reducible first | refine eK q_ ?_ | refine eQ q_ ?_ | refine eG q_ ?_); clear q_) | (have q_ := z84 t.base; (with_reducible first | refine cK q_ ?_ | refine cQ q_ ?_ | refine cG q_ ?_); clear q_; (simp (disch := omega) only [push_cast, ↓zz, seval]); (fail_if_success (with_reducible change False))) | (have q_ := z84 t.sum; (with_reducible first | refine cK q_ ?_ | refine cQ q_ ?_ | refine cG q_ ?_); clear q_; (simp (disch := omega) only [push_cast, ↓zz, seval]); (fail_if_success (with_reducible change False))) | (have q_ := z6f t; (with_reducible first | refine cK q_ ?_ | refine cQ q_ ?_ | refine cG q_ ?_); clear q_; (simp (disch := omega) only [push_cast, ↓zz, seval]); (fail_if_success (with_reducible change False))) | (have q_ := zdl t; (with_reducible first | refine cK q_ ?_ | refine cQ q_ ?_ | refine cG q_ ?_); clear q_; (simp (disch := omega) only [push_cast, ↓zz, seval]); (fail_if_success (with_reducible change False))) | (have q_ := zdk t.parts hl; (with_reducible first | refine cK q_ ?_ | refine cQ q_ ?_ | refine cG q_ ?_); clear q_; (simp (disch := omega) only [push_cast, ↓zz, seval]); (fail_if_success (with_reducible change False))) | omega | with_reducible intro _))
 all_goals (simp [z4e, *])
def zzf (s : Int) : Bool := decide (s = 1 ∨ s = 2)
def z5g (i n : Int) (l : List Part) : Bool := l.all fun p => z4z p n && (decide (i ≠ 2) || z9w p)
def zbq (t : Term) (i o n : Int) : Bool := zzf i && zzf o && z4e t && z5g i n t.parts && (decide (i ≠ 2) || decide (t.parts.length ≤ 1)) && (decide (o ≠ 2) || zos t)
theorem zhk (s : Int) : decide (((domL s).length : Int) = 0) = !zzf s := by
 unfold domL zzf
 split
 · subst_vars; decide
 · split
   · subst_vars; decide
   · simp [*]
theorem y9a (l : List Part) : (l.length ≤ 1) = ((l.length : Int) ≤ 1) := by simp only [eq_iff_iff]; omega
theorem zqw (t : Term) (i o n : Int) (hl : t.parts.length < 1000000000000) : PC Try.prog 67 [z1s t, .int .i64 i, .int .i64 o, .int .i64 n] (.bool (zbq t i o n)) := by
 refine z0v zjv ?_
 unfold zbf
 (repeat' (first | (simp (disch := omega) only [push_cast, ↓zz, seval, zhk]) | (with_reducible first | refine And.intro ?_ ?_ | (first | refine z01 ?_ ?_ | refine z00 ?_ ?_) <;> intro hc <;> (try simp only [push_cast] at hc)) | (have q_ := z3s i; (with_reducible first | refine eK q_ ?_ | refine eQ q_ ?_ | refine eG q_ ?_); clear q_) | (have q_ := z3s o; (with_reducible first | refine eK q_ ?_ | refine eQ q_ ?_ | refine eG q_ ?_); clear q_) | (have q_ := z7h t hl; (with_reducible first | refine eK q_ ?_ | refine eQ q_ ?_ | refine eG q_ ?_); clear q_) | (have q_ := z3s i; (with_reducible first | refine cK q_ ?_ | refine cQ q_ ?_ | refine cG q_ ?_); clear q_; (simp (disch := omega) only [push_cast, ↓zz, seval, zhk]); (fail_if_success (with_reducible change False))) | (have q_ := z3s o; (with_reducible first | refine cK q_ ?_ | refine cQ q_ ?_ | refine cG q_ ?_); clear q_; (simp (disch := omega) only [push_cast, ↓zz, seval, zhk]); (fail_if_success (with_reducible change False))) | (have q_ := z7h t hl; (with_reducible first | refine cK q_ ?_ | refine cQ q_ ?_ | refine cG q_ ?_); clear q_; (simp (disch := omega) only [push_cast, ↓zz, seval, zhk]); (fail_if_success (with_reducible change False))) | omega | with_reducible intro _))
 · simp [zbq, *]
 · have hn : zbq t i o n = (z5g i n t.parts && (decide (i ≠ 2) || decide ((t.parts.length : Int) ≤ 1)) && (decide (o ≠ 2) || zos t)) := by simp [zbq, y9a, *]
   rw [hn]
   refine z0n (z0p (fun (k : Nat) => k ≤ t.parts.length ∧ z5g i n t.parts = z5g i n (t.parts.drop k)) (fun k => t.parts.length - k) (fun k => [(1, .int .i64 i), (2, .int .i64 o), (3, .int .i64 n), (4, .ptr 0 1 0 0), (27, z0s t.parts), (28, .int .i64 t.parts.length), (29, .int .i64 k)]) (fun _ => [⟨6, 1, true, [z1s t]⟩]) (fun env _ => [z0r 0 (env 4)]) 0 (by simp) ?_ ?_)
   · (repeat' (first | (simp (disch := omega) only [push_cast, ↓zz, seval]) | (with_reducible first | refine And.intro ?_ ?_ | (first | refine z01 ?_ ?_ | refine z00 ?_ ?_) <;> intro hc <;> (try simp only [push_cast] at hc)) | omega | with_reducible intro _))
   rintro k ⟨hi, hr⟩
   refine W_T ?_
   (repeat' (first | (simp (disch := omega) only [push_cast, ↓zz, seval]) | (with_reducible first | refine And.intro ?_ ?_ | (first | refine z01 ?_ ?_ | refine z00 ?_ ?_) <;> intro hc <;> (try simp only [push_cast] at hc)) | (have q_ := z83 (nth t.parts k) n; (with_reducible first | refine eK q_ ?_ | refine eQ q_ ?_ | refine eG q_ ?_); clear q_) | (have q_ := z82 (nth t.parts k).at_; (with_reducible first | refine eK q_ ?_ | refine eQ q_ ?_ | refine eG q_ ?_); clear q_) | (have q_ := zfo t; (with_reducible first | refine eK q_ ?_ | refine eQ q_ ?_ | refine eG q_ ?_); clear q_) | (have q_ := z83 (nth t.parts k) n; (with_reducible first | refine cK q_ ?_ | refine cQ q_ ?_ | refine cG q_ ?_); clear q_; (simp (disch := omega) only [push_cast, ↓zz, seval]); (fail_if_success (with_reducible change False))) | (have q_ := z82 (nth t.parts k).at_; (with_reducible first | refine cK q_ ?_ | refine cQ q_ ?_ | refine cG q_ ?_); clear q_; (simp (disch := omega) only [push_cast, ↓zz, seval]); (fail_if_success (with_reducible change False))) | (have q_ := zfo t; (with_reducible first | refine cK q_ ?_ | refine cQ q_ ?_ | refine cG q_ ?_); clear q_; (simp (disch := omega) only [push_cast, ↓zz, seval]); (fail_if_success (with_reducible change False))) | omega | with_reducible intro _))
   all_goals (first | (refine ⟨k + 1, ?_⟩; (repeat' (first | (simp (disch := omega) only [push_cast, ↓zz, seval]) | (with_reducible first | refine And.intro ?_ ?_ | (first | refine z01 ?_ ?_ | refine z00 ?_ ?_) <;> intro hc <;> (try simp only [push_cast] at hc)) | omega | with_reducible intro _)); (try (first | (rw [hr, drop_at (by omega)]; simp [z5g, z9w, *]; done) | (rw [hr, List.drop_of_length_le (by omega)]; simp [z5g, z9w, *]; done) | (simp [z5g, z9w, *]; done))); done) | (first | (rw [hr, drop_at (by omega)]; simp [z5g, z9w, *]; done) | (rw [hr, List.drop_of_length_le (by omega)]; simp [z5g, z9w, *]; done) | (simp [z5g, z9w, *]; done)))
 all_goals (simp [zbq, *])
theorem zdm (l : List Part) (hl : l.length ≤ 1000000000000) : PC Try.prog 65 [z0s l] (z0s l) := by
 by_cases h0 : l = []
 · subst h0
   refine znx ?_ ?_
   · refine z0v z2b ?_
     unfold z1j
     (repeat' (first | (simp (disch := omega) only [push_cast, ↓zz, seval]) | (with_reducible first | refine And.intro ?_ ?_ | (first | refine z01 ?_ ?_ | refine z00 ?_ ?_) <;> intro hc <;> (try simp only [push_cast] at hc)) | omega | with_reducible intro _))
   · refine z0v z2b ?_
     unfold z1j
     (repeat' (first | (simp (disch := omega) only [push_cast, ↓zz, seval]) | (with_reducible first | refine And.intro ?_ ?_ | (first | refine z01 ?_ ?_ | refine z00 ?_ ?_) <;> intro hc <;> (try simp only [push_cast] at hc)) | omega | with_reducible intro _))
 · refine z0v z2b ?_
   unfold z1j
   (repeat' (first | (simp (disch := omega) only [push_cast, ↓zz, seval, h0]) | (with_reducible first | refine And.intro ?_ ?_ | (first | refine z01 ?_ ?_ | refine z00 ?_ ?_) <;> intro hc <;> (try simp only [push_cast] at hc)) | omega | with_reducible intro _))
theorem z0a {p : Part} {n : Int} (h : z4z p n = true) : 0 ≤ p.at_ ∧ p.at_ < n := by
 simp only [z4z, Bool.and_eq_true, decide_eq_true_eq] at h
 exact h.1
theorem zv4 {x : Int} : z1u x = true ↔ -1114111 ≤ x ∧ x ≤ 1114111 := by simp [z1u]
theorem zzg {x : Int} (h : z1u x = true) : -1114111 ≤ x ∧ x ≤ 1114111 := zv4.1 h
end Go.Proofs.Yticodgjinajkpaa
namespace Go.Proofs.Yticodgjinajkpaa
open Abs
theorem zfp {l m : List Part} {k : Nat} (h1 : k < l.length) (h2 : k < m.length) : decide (l.drop k = m.drop k) = (decide (nth l k = nth m k) && decide (l.drop (k + 1) = m.drop (k + 1))) := by
 rw [drop_at h1, drop_at h2]
 simp
theorem zm7 (p q : Part) : (decide (p.at_ = q.at_) && (decide (p.drop = q.drop) && (decide (p.take = q.take) && decide (p.up = q.up)))) = decide (p = q) := by
 cases p; cases q; simp
theorem zot (a b : Term) (hl : a.parts.length ≤ 1000000000000) : PC Try.prog 59 [z1s a, z1s b] (.bool (decide (a = b))) := by
 refine z0v zjt ?_
 unfold zbd
 (repeat' (first | (simp (disch := omega) only [push_cast, ↓zz, seval]) | (with_reducible first | refine And.intro ?_ ?_ | (first | refine z01 ?_ ?_ | refine z00 ?_ ?_) <;> intro hc <;> (try simp only [push_cast] at hc)) | omega | with_reducible intro _))
 all_goals first
   | (have : a ≠ b := by intro h; subst h; first | omega | simp_all
      simp [this]; done)
   | skip
 have hab : decide (a = b) = decide (a.parts = b.parts) := by cases a; cases b; simp_all
 rw [hab]
 refine z0n (z0p (fun (k : Nat) => k ≤ a.parts.length ∧ decide (a.parts = b.parts) = decide (a.parts.drop k = b.parts.drop k)) (fun k => a.parts.length - k)
   (fun k => [(2, .ptr 0 1 0 0), (3, .ptr 1 1 0 0), (5, .int .i64 k)])
   (fun s => [⟨6, 1, true, [z1s a]⟩, ⟨6, 1, true, [z1s b]⟩])
   (fun env _ => [z0r 0 (env 2), z0r 0 (env 3)]) 0 (by simp) ?_ ?_)
 · (repeat' (first | (simp (disch := omega) only [push_cast, ↓zz, seval]) | (with_reducible first | refine And.intro ?_ ?_ | (first | refine z01 ?_ ?_ | refine z00 ?_ ?_) <;> intro hc <;> (try simp only [push_cast] at hc)) | omega | with_reducible intro _))
 rintro k ⟨hk, hr⟩
 refine W_T ?_
 (repeat' (first | (simp (disch := omega) only [push_cast, ↓zz, seval, zm7]) | (with_reducible first | refine And.intro ?_ ?_ | (first | refine z01 ?_ ?_ | refine z00 ?_ ?_) <;> intro hc <;> (try simp only [push_cast] at hc)) | omega | with_reducible intro _))
 · rw [hr, zfp (by omega) (by omega)]; simp [*]
 · refine ⟨k + 1, ?_⟩
   (repeat' (first | (simp (disch := omega) only [push_cast, ↓zz, seval]) | (with_reducible first | refine And.intro ?_ ?_ | (first | refine z01 ?_ ?_ | refine z00 ?_ ?_) <;> intro hc <;> (try simp only [push_cast] at hc)) | omega | with_reducible intro _))
   rw [hr, zfp (by omega) (by omega)]; simp [*]
 · rw [hr, List.drop_of_length_le (by omega), List.drop_of_length_le (by omega)]; simp
end Go.Proofs.Yticodgjinajkpaa
namespace Go.Proofs.Yticodgjinajkpaa
open Abs Go.RowKit
abbrev shI : Sh := .int .i64
abbrev zv5 : Sh := .sl true [shI, shI]
abbrev zhl : Sh := .sl false [zv5]
abbrev zv6 : Sh := .sl true [shI, shI, shI, shI]
abbrev zv7 : List Sh := [shI, shI, shI, shI, shI, zv6]
abbrev zm8 : Sh := .sl true zv7
abbrev zv8 : List Sh := [shI, shI, zhl, shI, zm8]
abbrev zou : List Sh := [shI, zhl, zm8]
abbrev zv9 : List Sh := [shI, shI, shI, shI, .sl true zv8, .sl true zou]
theorem wf_u8 {n : Int} (h : (Lit.int .u8 n).wf = true) : 0 ≤ n ∧ n ≤ 255 := by
 simpa [Lit.wf, IntKind.min, IntKind.max, IntKind.signed, IntKind.bits] using h
theorem zal {α : Type} {agg : Bool} {fs : List Sh} {x : AV} (f : α → AV) (Q : α → Prop) (hp : ∀ l : List α, z0h (l.map f) = true) (hpos : 0 < fs.length)
   (he : ∀ cs, IsL fs cs → ∃ a, AV.le (if agg then .agg cs else cs.headD .any) (f a) ∧ Q a) (h : Is (.sl agg fs) x) : ∃ l : List α, AV.le x (.lst fs.length (l.map f)) ∧ l.length ≤ maxLen ∧ ∀ a ∈ l, Q a := by
 rcases h with rfl | ⟨xs, rfl, hl, hx⟩
 · exact ⟨[], AV.le_nilS hpos, Nat.zero_le _, fun _ h => by cases h⟩
 · have key : ∀ xs : List AV, (∀ y ∈ xs, ∃ cs, y = (if agg then AV.agg cs else cs.headD .any) ∧ IsL fs cs) → ∃ l : List α, l.length = xs.length ∧ leL xs (l.map f) ∧ ∀ a ∈ l, Q a := by
     intro xs
     induction xs with
     | nil => intro _; exact ⟨[], rfl, z2k, fun _ h => by cases h⟩
     | cons y r ih =>
       intro hy
       obtain ⟨l, h1, h2, h3⟩ := ih fun z hz => hy z (List.mem_cons_of_mem _ hz)
       obtain ⟨cs, rfl, hcs⟩ := hy y (List.mem_cons_self ..)
       obtain ⟨a, h4, h5⟩ := he cs hcs
       refine ⟨a :: l, by simp [h1], z0e h4 h2, fun b hb => ?_⟩
       rcases List.mem_cons.1 hb with rfl | hb
       · exact h5
       · exact h3 b hb
   obtain ⟨l, h1, h2, h3⟩ := key xs hx
   exact ⟨l, AV.le_lst (by simp [h1]) (hp l) h2, by rw [h1]; exact hl, h3⟩
def i64s (l : List Int) : Prop := ∀ n ∈ l, (Lit.int .i64 n).wf = true
def zfq (s : Span) : Prop := i64s [s.lo, s.hi]
theorem zzh {x : AV} (h : Is zv5 x) : ∃ l : List Span, AV.le x (z06 l) ∧ l.length ≤ maxLen ∧ ∀ s ∈ l, zfq s :=
 zal z1p zfq z3e (by decide) (fun cs h => by
   obtain ⟨_, _, rfl, ⟨a, rfl, ha⟩, _, _, rfl, ⟨b, rfl, hb⟩, rfl⟩ := h
   exact ⟨⟨a, b⟩, AV.le_refl _, by simp [zfq, i64s, ha, hb]⟩) h
theorem zk4 {x : AV} (h : Is zhl x) : ∃ l : List (List Span), AV.le x (z0d l) ∧ l.length ≤ maxLen ∧ ∀ g ∈ l, g.length ≤ maxLen ∧ ∀ s ∈ g, zfq s :=
 zal z06 (fun g => g.length ≤ maxLen ∧ ∀ s ∈ g, zfq s) z07 (by decide) (fun cs h => by
   obtain ⟨c, _, rfl, hc, _⟩ := h
   obtain ⟨l, h1, h2, h3⟩ := zzh hc
   exact ⟨l, h1, h2, h3⟩) h
def zov (p : Part) : Prop := i64s [p.at_, p.drop, p.take, p.up]
theorem zzi {x : AV} (h : Is zv6 x) : ∃ l : List Part, AV.le x (z0s l) ∧ l.length ≤ maxLen ∧ ∀ s ∈ l, zov s :=
 zal z2d zov z68 (by decide) (fun cs h => by
   obtain ⟨_, _, rfl, ⟨a, rfl, ha⟩, _, _, rfl, ⟨b, rfl, hb⟩, _, _, rfl, ⟨c, rfl, hc⟩, _, _, rfl, ⟨d, rfl, hd⟩, rfl⟩ := h
   exact ⟨⟨a, b, c, d⟩, AV.le_refl _, by simp [zov, i64s, ha, hb, hc, hd]⟩) h
def zow (t : Term) : Prop := i64s [t.base, t.drop, t.take, t.up, t.sum] ∧ t.parts.length ≤ maxLen ∧ ∀ p ∈ t.parts, zov p
theorem zzj {cs : List AV} (h : IsL zv7 cs) : ∃ t : Term, AV.le (.agg cs) (z1s t) ∧ zow t := by
 obtain ⟨_, _, rfl, ⟨a, rfl, ha⟩, _, _, rfl, ⟨b, rfl, hb⟩, _, _, rfl, ⟨c, rfl, hc⟩, _, _, rfl, ⟨d, rfl, hd⟩, _, _, rfl, ⟨e, rfl, he⟩, x, _, rfl, hx, rfl⟩ := h
 obtain ⟨l, h1, h2, h3⟩ := zzi hx
 exact ⟨⟨a, b, c, d, e, l⟩, AV.le_agg (z0e (AV.le_refl _) (z0e (AV.le_refl _) (z0e (AV.le_refl _) (z0e (AV.le_refl _) (z0e (AV.le_refl _) (z0e h1 z2k)))))), by simp [i64s, ha, hb, hc, hd, he], h2, h3⟩
theorem zox {x : AV} (h : Is zm8 x) : ∃ l : List Term, AV.le x (z37 l) ∧ l.length ≤ maxLen ∧ ∀ t ∈ l, zow t :=
 zal z1s zow z0z (by decide) (fun cs h => by simpa using zzj h) h
def zoy (g : List (List Span)) : Prop := g.length ≤ maxLen ∧ ∀ l ∈ g, l.length ≤ maxLen ∧ ∀ s ∈ l, zfq s
def zva (l : List Term) : Prop := l.length ≤ maxLen ∧ ∀ t ∈ l, zow t
def zvb (r : Rule) : Prop := i64s [r.from_, r.to_, r.eat] ∧ zoy r.guards ∧ zva r.out
def zm9 (f : z5m) : Prop := i64s [f.from_] ∧ zoy f.guards ∧ zva f.out
theorem y5f {cs : List AV} (h : IsL zv8 cs) : ∃ r : Rule, AV.le (.agg cs) (zbu r) ∧ zvb r := by
 obtain ⟨_, _, rfl, ⟨a, rfl, ha⟩, _, _, rfl, ⟨b, rfl, hb⟩, x, _, rfl, hx, _, _, rfl, ⟨c, rfl, hc⟩, y, _, rfl, hy, rfl⟩ := h
 obtain ⟨g, g1, g2, g3⟩ := zk4 hx
 obtain ⟨o, o1, o2, o3⟩ := zox hy
 exact ⟨⟨a, b, g, c, o⟩, AV.le_agg (z0e (AV.le_refl _) (z0e (AV.le_refl _) (z0e g1 (z0e (AV.le_refl _) (z0e o1 z2k))))), by simp [i64s, ha, hb, hc], ⟨g2, g3⟩, o2, o3⟩
theorem zzk {cs : List AV} (h : IsL zou cs) : ∃ r : z5m, AV.le (.agg cs) (zd2 r) ∧ zm9 r := by
 obtain ⟨_, _, rfl, ⟨a, rfl, ha⟩, x, _, rfl, hx, y, _, rfl, hy, rfl⟩ := h
 obtain ⟨g, g1, g2, g3⟩ := zk4 hx
 obtain ⟨o, o1, o2, o3⟩ := zox hy
 exact ⟨⟨a, g, o⟩, AV.le_agg (z0e (AV.le_refl _) (z0e g1 (z0e o1 z2k))), by simp [i64s, ha], ⟨g2, g3⟩, o2, o3⟩
def y9b (d : Desc) : Prop := i64s [d.in_, d.out, d.states, d.start] ∧ (d.rules.length ≤ maxLen ∧ ∀ r ∈ d.rules, zvb r) ∧ d.finals.length ≤ maxLen ∧ ∀ f ∈ d.finals, zm9 f
theorem y5g {x : AV} (h : IsP (.rcd zv9) x) : ∃ d : Desc, AV.le x (z2r d) ∧ y9b d := by
 obtain ⟨_, rfl, _, _, rfl, ⟨a, rfl, ha⟩, _, _, rfl, ⟨b, rfl, hb⟩, _, _, rfl, ⟨c, rfl, hc⟩, _, _, rfl, ⟨e, rfl, he⟩, x, _, rfl, hx, y, _, rfl, hy, rfl⟩ := h
 obtain ⟨r, r1, r2, r3⟩ := zal zbu zvb z1a (by decide) (fun cs h => by simpa using y5f h) hx
 obtain ⟨f, f1, f2, f3⟩ := zal zd2 zm9 z1b (by decide) (fun cs h => by simpa using zzk h) hy
 exact ⟨⟨a, b, c, e, r, f⟩, AV.le_agg (z0e (AV.le_refl _) (z0e (AV.le_refl _) (z0e (AV.le_refl _) (z0e (AV.le_refl _) (z0e r1 (z0e f1 z2k)))))), by simp [i64s, ha, hb, hc, he], ⟨r2, r3⟩, f2, f3⟩
end Go.Proofs.Yticodgjinajkpaa
namespace Go.Proofs.Yticodgjinajkpaa
open Abs
def z4q (r : Rule) : Bool := decide ((r.guards.length : Int) = 0)
def toD (l : List Rule) (i : Nat) : List Int := (l.filter fun r => z4q r && decide (r.from_ = i)).map (·.to_)
def inD (l : List Rule) (j : Nat) : Int := ((l.filter fun r => z4q r && decide (r.to_ = j)).length : Int)
def cntE (l : List Rule) (P : List Int) (j : Nat) : Int := ((l.filter fun r => z4q r && (decide (r.to_ = j) && !decide (r.from_ ∈ P))).length : Int)
theorem zhm (l : List Rule) (j : Nat) : cntE l [] j = inD l j := by simp [cntE, inD]
theorem y5h (l : List Rule) (P : List Int) (j : Nat) : 0 ≤ cntE l P j := by simp only [cntE]; omega
theorem y5i (l : List Rule) (P : List Int) (j : Nat) : cntE l P j ≤ cntE l [] j := by
 simp only [cntE]
 have : (l.filter fun r => z4q r && (decide (r.to_ = j) && !decide (r.from_ ∈ P))).length ≤ (l.filter fun r => z4q r && (decide (r.to_ = j) && !decide (r.from_ ∈ ([] : List Int)))).length := by
   induction l with
   | nil => simp
   | cons r l ih =>
     simp only [List.filter_cons]
     cases z4q r <;> cases decide (r.to_ = (j : Int)) <;> cases decide (r.from_ ∈ P) <;> simp at ih ⊢ <;> omega
 omega
theorem zhn {s j : Nat} {P : List Int} (hs : (s : Int) ∉ P) : ∀ l : List Rule, cntE l (P ++ [(s : Int)]) j + ((toD l s).count (j : Int) : Int) = cntE l P j
 | [] => by simp [cntE, toD]
 | r :: l => by
   have ih := zhn (j := j) hs l
   simp only [cntE, toD, List.filter_cons] at ih ⊢
   cases he : z4q r
   · simpa using ih
   · simp only [Bool.true_and]
     by_cases ht : r.to_ = j
     · by_cases hf : r.from_ = s
       · have h1 : r.from_ ∈ P ++ [(s : Int)] := by simp [hf]
         have h2 : r.from_ ∉ P := by rw [hf]; exact hs
         simp only [ht, hf] at h1 h2 ⊢
         simp only [decide_true, h1, h2, decide_false, Bool.not_true, Bool.not_false, Bool.and_false, Bool.and_true, if_true, Bool.false_eq_true, if_false, List.length_cons, List.map_cons, List.count_cons_self, ht]
         push_cast
         omega
       · have h1 : (r.from_ ∈ P ++ [(s : Int)]) ↔ r.from_ ∈ P := by simp [hf]
         by_cases h2 : r.from_ ∈ P
         · simp only [ht, hf, h1, h2, decide_true, decide_false, Bool.not_true, Bool.and_false, Bool.false_eq_true, if_false]
           exact ih
         · simp only [ht, hf, h1, h2, decide_true, decide_false, Bool.not_false, Bool.and_true, if_true, Bool.false_eq_true, if_false, List.length_cons]
           push_cast
           omega
     · by_cases hf : r.from_ = s
       · simp only [ht, hf, decide_false, decide_true, Bool.false_and, Bool.false_eq_true, if_false, if_true, List.map_cons]
         rw [List.count_cons_of_ne ht]
         exact ih
       · simp only [ht, hf, decide_false, Bool.false_and, Bool.false_eq_true, if_false]
         exact ih
theorem z85 : ∀ {a b : List Int}, a.Nodup → (∀ x ∈ a, x ∈ b) → a.length ≤ b.length
 | [], b, _, _ => Nat.zero_le _
 | x :: a, b, hn, h => by
   obtain ⟨h1, h2⟩ := List.nodup_cons.1 hn
   have hx := h x (by simp)
   have := z85 (a := a) (b := b.erase x) h2 fun y hy => (List.mem_erase_of_ne (fun (e : y = x) => h1 (by rw [← e]; exact hy))).2 (h y (by simp [hy]))
   rw [List.length_erase_of_mem hx] at this
   have := List.length_pos_of_mem hx
   simp only [List.length_cons]
   omega
def idsN (n : Nat) : List Int := (List.range n).map fun (i : Nat) => (i : Int)
theorem zvc (n : Nat) : (idsN n).Nodup := by
 rw [idsN, List.nodup_iff_pairwise_ne, List.pairwise_map]
 exact (List.nodup_iff_pairwise_ne.1 (List.nodup_range)).imp fun h e => h (by omega)
theorem zho {n : Nat} {x : Int} : x ∈ idsN n ↔ 0 ≤ x ∧ x < n := by
 simp only [idsN, List.mem_map, List.mem_range]
 constructor
 · rintro ⟨i, hi, rfl⟩; omega
 · rintro ⟨h1, h2⟩; exact ⟨x.toNat, by omega, by omega⟩
def y1u (l : List Rule) (n : Nat) (C : Int → Prop) : Prop := ∀ j, C j → (0 ≤ j ∧ j < n) ∧ ∃ r ∈ l, z4q r = true ∧ r.to_ = j ∧ C r.from_
def cycP (l : List Rule) (n : Nat) : Prop := ∃ C, y1u l n C ∧ ∃ j, C j
structure KInv (l : List Rule) (n : Nat) (D : List Int) (I : Nat → Int) : Prop where
 nodup : D.Nodup
 range : ∀ x ∈ D, 0 ≤ x ∧ x < n
 zero : ∀ j, j < n → ((j : Int) ∈ D ↔ I j = 0)
 apart : ∀ C, y1u l n C → ∀ x ∈ D, ¬ C x
theorem KInv.len {l : List Rule} {n : Nat} {D : List Int} {I : Nat → Int} (h : KInv l n D I) : D.length ≤ n := by
 have := z85 h.nodup fun x hx => zho.2 (h.range x hx)
 simpa [idsN] using this
def z93 (f : Nat → Int) (k : Nat) : List Int := ((List.range k).filter fun j => decide (f j = 0)).map fun (j : Nat) => (j : Int)
theorem zqx (f : Nat → Int) (k : Nat) : z93 f (k + 1) = if f k = 0 then z93 f k ++ [(k : Int)] else z93 f k := by
 rw [z93, List.range_succ, List.filter_append, List.map_append]
 split
 · rename_i h; simp [z93, h]
 · rename_i h; simp [z93, h]
theorem zvd (f : Nat → Int) (k : Nat) : (z93 f k).length ≤ k := by
 have := List.length_filter_le (fun j => decide (f j = 0)) (List.range k)
 simpa [z93] using this
theorem y5j {l : List Rule} {r : Rule} {j : Nat} (hr : r ∈ l) (he : z4q r = true) (ht : r.to_ = j) : 0 < inD l j := by
 have : 0 < (l.filter fun r => z4q r && decide (r.to_ = j)).length := List.length_pos_of_mem (List.mem_filter.2 ⟨hr, by simp [he, ht]⟩)
 simp only [inD]; omega
theorem zzl {l : List Rule} {P : List Int} {r : Rule} {j : Nat} (hr : r ∈ l) (he : z4q r = true) (ht : r.to_ = j) (hf : r.from_ ∉ P) : 0 < cntE l P j := by
 have : 0 < (l.filter fun r => z4q r && (decide (r.to_ = j) && !decide (r.from_ ∈ P))).length := List.length_pos_of_mem (List.mem_filter.2 ⟨hr, by simp [he, ht, hf]⟩)
 simp only [cntE]; omega
theorem zqy (l : List Rule) (n : Nat) : KInv l n (z93 (inD l) n) (cntE l []) where
 nodup := by
   rw [z93, List.nodup_iff_pairwise_ne, List.pairwise_map]
   exact ((List.nodup_iff_pairwise_ne.1 (List.nodup_range)).filter _).imp fun h e => h (by omega)
 range x hx := by
   obtain ⟨i, hi, rfl⟩ := List.mem_map.1 hx
   have := (List.mem_filter.1 hi).1
   simp at this
   omega
 zero j hj := by
   rw [zhm]
   simp only [z93, List.mem_map, List.mem_filter, List.mem_range, decide_eq_true_eq]
   constructor
   · rintro ⟨i, ⟨h1, h2⟩, e⟩
     obtain rfl : i = j := by omega
     exact h2
   · intro h; exact ⟨j, ⟨hj, h⟩, rfl⟩
 apart C hC x hx hCx := by
   obtain ⟨i, hi, rfl⟩ := List.mem_map.1 hx
   have h0 := (List.mem_filter.1 hi).2
   simp only [decide_eq_true_eq] at h0
   obtain ⟨_, r, hr, he, ht, _⟩ := hC _ hCx
   have := y5j hr he ht
   omega
def z4b (l : List Rule) (P : List Int) (s m : Nat) (j : Nat) : Int := cntE l P j - (((toD l s).take m).count (j : Int) : Int)
theorem zfr (l : List Rule) (P : List Int) (s : Nat) : z4b l P s 0 = cntE l P := by funext j; simp [z4b]
theorem zve {l : List Rule} {P : List Int} {s : Nat} (hs : (s : Int) ∉ P) : z4b l P s (toD l s).length = cntE l (P ++ [(s : Int)]) := by
 funext j
 have := zhn (j := j) hs l
 rw [z4b, List.take_length]
 omega
theorem zoz {l : List Rule} {P : List Int} {s m j : Nat} (hs : (s : Int) ∉ P) : cntE l (P ++ [(s : Int)]) j ≤ z4b l P s m j := by
 have h1 := zhn (j := j) hs l
 have h2 := (List.take_sublist m (toD l s)).count_le (j : Int)
 rw [z4b]
 omega
theorem zam {l : List Rule} {P : List Int} {s m t : Nat} (hm : m < (toD l s).length) (ht : nth (toD l s) m = t) : z4b l P s (m + 1) = fun j => if j = t then z4b l P s m t - 1 else z4b l P s m j := by
 funext j
 rw [z4b, take_at hm, List.count_append, ht]
 by_cases e : j = t
 · subst e; simp [z4b]; omega
 · have h0 : List.count (j : Int) [(t : Int)] = 0 := List.count_eq_zero.2 (by simp; omega)
   rw [if_neg e, h0, z4b]; omega
theorem zk5 {l : List Rule} {P : List Int} {s m t : Nat} (hs : (s : Int) ∉ P) (hm : m < (toD l s).length) (ht : nth (toD l s) m = t) : 0 < z4b l P s m t := by
 have h1 := zoz (l := l) (m := m + 1) (j := t) hs
 have h2 := y5h l (P ++ [(s : Int)]) t
 rw [zam hm ht] at h1
 simp only [if_true] at h1
 omega
theorem zvf {l : List Rule} {n : Nat} {P td : List Int} {s m t : Nat} (hs : (s : Int) ∉ P) (hm : m < (toD l s).length) (ht : nth (toD l s) m = t) (htn : t < n) (h : KInv l n (P ++ [(s : Int)] ++ td) (z4b l P s m)) :
   KInv l n (P ++ [(s : Int)] ++ if z4b l P s m t - 1 = 0 then td ++ [(t : Int)] else td) (z4b l P s (m + 1)) := by
 have hp := zk5 hs hm ht
 have hno : (t : Int) ∉ P ++ [(s : Int)] ++ td := fun hh => by
   have := (h.zero t htn).1 hh
   omega
 have hst := zam (P := P) hm ht
 split
 · rename_i h0
   rw [← List.append_assoc]
   refine ⟨List.nodup_append.2 ⟨h.nodup, by simp, fun a ha b hb => ?_⟩, fun x hx => ?_, fun j hj => ?_, fun C hC x hx hCx => ?_⟩
   · simp only [List.mem_singleton] at hb
     subst hb
     exact fun e => hno (e ▸ ha)
   · rcases List.mem_append.1 hx with hx | hx
     · exact h.range x hx
     · simp only [List.mem_singleton] at hx; omega
   · rw [hst, List.mem_append, List.mem_singleton]
     by_cases e : j = t
     · subst e; simp [h0]
     · simp only [if_neg e]
       rw [← h.zero j hj]
       exact ⟨fun hh => hh.elim id fun hh => absurd hh (by omega), .inl⟩
   · rcases List.mem_append.1 hx with hx | hx
     · exact h.apart C hC x hx hCx
     · simp only [List.mem_singleton] at hx
       subst hx
       obtain ⟨_, r, hr, he, hrt, hrf⟩ := hC _ hCx
       have hf : r.from_ ∉ P ++ [(s : Int)] := fun hh => h.apart C hC _ (List.mem_append.2 (.inl hh)) hrf
       have h1 := zzl hr he hrt hf
       have h2 := zoz (l := l) (m := m + 1) (j := t) hs
       rw [hst] at h2
       simp only [if_true] at h2
       omega
 · rename_i h0
   refine ⟨h.nodup, h.range, fun j hj => ?_, h.apart⟩
   rw [hst]
   by_cases e : j = t
   · subst e; simp only [if_true]; exact ⟨fun hh => absurd hh hno, fun hh => absurd hh h0⟩
   · simp only [if_neg e]; exact h.zero j hj
theorem zvg {l : List Rule} {n : Nat} {P : List Int} (hl : ∀ r ∈ l, 0 ≤ r.from_ ∧ r.from_ < n) (h : KInv l n P (cntE l P)) : P.length < n ↔ cycP l n := by
 constructor
 · intro hlt
   refine ⟨fun j => (0 ≤ j ∧ j < n) ∧ j ∉ P, fun j hj => ⟨hj.1, ?_⟩, ?_⟩
   · have h0 : cntE l P j.toNat ≠ 0 := fun h0 => hj.2 (by
       have := (h.zero j.toNat (by omega)).2 h0
       rwa [show ((j.toNat : Nat) : Int) = j by omega] at this)
     have : 0 < (l.filter fun r => z4q r && (decide (r.to_ = (j.toNat : Nat)) && !decide (r.from_ ∈ P))).length := by
       simp only [cntE] at h0; omega
     obtain ⟨r, hr⟩ := List.exists_mem_of_length_pos this
     obtain ⟨h1, h2⟩ := List.mem_filter.1 hr
     simp only [Bool.and_eq_true, decide_eq_true_eq, Bool.not_eq_true', decide_eq_false_iff_not] at h2
     exact ⟨r, h1, h2.1, by rw [h2.2.1]; omega, hl r h1, h2.2.2⟩
   · refine Classical.byContradiction fun hno => ?_
     have := z85 (zvc n) fun x hx => Classical.byContradiction fun hp => hno ⟨x, zho.1 hx, hp⟩
     simp [idsN] at this
     omega
 · rintro ⟨C, hC, j, hj⟩
   have hr := (hC j hj).1
   have hjP : j ∉ P := fun hh => h.apart C hC j hh hj
   have := z85 (a := j :: P) (b := idsN n) (List.nodup_cons.2 ⟨hjP, h.nodup⟩) fun x hx => by
     rcases List.mem_cons.1 hx with rfl | hx
     · exact zho.2 hr
     · exact zho.2 (h.range x hx)
   simp [idsN] at this
   omega
end Go.Proofs.Yticodgjinajkpaa
namespace Go.Proofs.Yticodgjinajkpaa.Abs
theorem zfs {n b : Nat} {env : Env} {l l' : List Grp} {g w v d : Nat} {ex : Bool} {x : AV} (ks : List Nat) (hw : 0 < w) (hlt : g < l.length) (hg : l.getD g default = ⟨w, v, ex, [x]⟩) (hk : g ∉ ks)
   (hok : z2j d ((hl l).only ks) x) (hl' : (z67 0 ks l).set g ⟨w, v, ex, [frzV d ((hl l).only ks) x]⟩ = l') : Ent n b env (hl l) env (hl l') := fun S val hb hS hv => by
 subst hl'
 have hS1 := zgv ks hS
 have he := z7w ks hS
 refine ⟨S.kill (hl l) ks, rfl, he.down hb, ?_, fun i hi => VRel.mono he _ (hv i hi)⟩
 have hlk : g < (z67 0 ks l).length := by rw [z9i]; exact hlt
 have hat0 : ∀ j, j < l.length → ((hl l).kill ks).at_ j = (z67 0 ks l).getD j default := fun j hj => by
   rw [zh0 0 ks l j hj, Nat.zero_add]; rfl
 have hn : (hl ((z67 0 ks l).set g ⟨w, v, ex, [frzV d ((hl l).only ks) x]⟩)).n = ((hl l).kill ks).n := by simp [hl, z02.kill, z9i]
 have hlen : ((hl l).kill ks).n = l.length := rfl
 have hat : ∀ j, j < l.length → (hl ((z67 0 ks l).set g ⟨w, v, ex, [frzV d ((hl l).only ks) x]⟩)).at_ j = if j = g then ⟨w, v, ex, [frzV d ((hl l).only ks) x]⟩ else ((hl l).kill ks).at_ j := fun j hj => by
   rw [z2g]
   by_cases e : j = g
   · subst e; rw [if_pos rfl]; exact z8t _ hlk
   · rw [if_neg e, hat0 j hj]; exact z4v _ (Ne.symm e)
 have hgk : ((hl l).kill ks).at_ g = ⟨w, v, ex, [x]⟩ := by
   show (if g ∈ ks then _ else _) = _
   rw [if_neg hk, z2g, hg]
 have h1 : GRel (S.kill (hl l) ks) ⟨w, v, ex, [x]⟩ g := by have := hS1.grp g (by rw [hlen]; exact hlt); rwa [hgk] at this
 have h0 : GRel S ⟨w, v, ex, [x]⟩ g := by have := hS.grp g hlt; rwa [z2g, hg] at this
 have hG : GRel (S.kill (hl l) ks) ⟨w, v, ex, [frzV d ((hl l).only ks) x]⟩ g := by
   refine ⟨h1.ver, h1.wid, fun _ hc => ?_, fun hh => h1.len hh, fun hh he => h1.full hh he, fun hh => by simp only at hh; omega⟩
   obtain ⟨⟨cells, TT, vs, a1, a2, a3, a4⟩, _⟩ := h0.live hw hc
   refine ⟨⟨cells, TT, vs, a1, a2, ?_, a4⟩, (h1.live hw hc).2⟩
   obtain ⟨u, r, rfl, hu, hr⟩ := a3
   exact ⟨u, r, rfl, zgw ks hS d hok hu, hr.mono he⟩
 have hhas : ∀ j, j < l.length → ((hl ((z67 0 ks l).set g ⟨w, v, ex, [frzV d ((hl l).only ks) x]⟩)).at_ j).has ((S.kill (hl l) ks).cap j) → (((hl l).kill ks).at_ j).has ((S.kill (hl l) ks).cap j) := fun j hj h => by
   rw [hat j hj] at h
   by_cases e : j = g
   · subst e; rw [if_pos rfl] at h; rw [hgk]; exact h
   · rw [if_neg e] at h; exact h
 refine ⟨hS1.n.trans hn.symm, fun j hj => ?_, fun j j' a c hne p q => hS1.apart j j' (by rwa [hn] at a) (by rwa [hn] at c) hne (hhas j (by rwa [hn] at a) p) (hhas j' (by rwa [hn] at c) q), hS1.im⟩
 rw [hn] at hj
 rw [hat j hj]
 by_cases e : j = g
 · subst e; rw [if_pos rfl]; exact hG
 · rw [if_neg e]; exact hS1.grp j hj
end Go.Proofs.Yticodgjinajkpaa.Abs
namespace Go.Proofs.Yticodgjinajkpaa
open Abs
end Go.Proofs.Yticodgjinajkpaa
