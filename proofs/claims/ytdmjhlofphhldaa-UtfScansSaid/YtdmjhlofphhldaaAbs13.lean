/-
  Code, piece by piece: 'T c env H Q': from data env and groups H the code goes through, and Q holds of where it goes on, of the data and of the groups.
-/
import Derived.Test.YtdmjhlofphhldaaAbsJ
import Derived.Deep.LoopGhost
import Derived.Scope
set_option linter.unusedSimpArgs false
set_option linter.unusedVariables false
namespace Go.Proofs.Ytdmjhlofphhldaa.Abs

/-- From S to S', seen from a caller: what was never written again hasn't been written, and the first b groups keep their places while they keep their versions. -/
structure BEvo (b : Nat) (S S' : MS) : Prop where
  os : S'.w.os = S.w.os
  tape : S'.w.tape = S.w.tape
  output : S'.w.output = S.w.output
  size : S.w.heap.size ≤ S'.w.heap.size
  kept : ∀ b, S.im b ∨ S.keep b → S'.w.heap[b]? = S.w.heap[b]?
  im : ∀ b, S.im b → S'.im b
  keep : ∀ b, S.keep b → S'.keep b
  fresh : ∀ b, S'.im b → S.im b ∨ ¬ S.keep b
  n : b ≤ S'.n
  cur : ∀ g, g < b → S.cur g ≤ S'.cur g
  same : ∀ g, g < b → S'.cur g = S.cur g → S'.place g = S.place g ∧ S'.cap g = S.cap g ∧ S'.wid g = S.wid g

theorem Evo.down {S S' : MS} {b : Nat} (e : Evo S S') (hb : b ≤ S.n) : BEvo b S S' :=
  ⟨e.os, e.tape, e.output, e.size, e.kept, e.im, e.keep, e.fresh, Nat.le_trans hb e.n, fun g hg => e.cur g (Nat.lt_of_lt_of_le hg hb), fun g hg => e.same g (Nat.lt_of_lt_of_le hg hb)⟩
theorem BEvo.up {S S' : MS} (e : BEvo S.n S S') : Evo S S' :=
  ⟨e.os, e.tape, e.output, e.size, e.kept, e.im, e.keep, e.fresh, e.n, e.cur, e.same⟩
theorem BEvo.refl {b : Nat} {S : MS} (hb : b ≤ S.n) : BEvo b S S := (Evo.refl S).down hb
theorem BEvo.trans {b : Nat} {A B C : MS} (h : BEvo b A B) (k : BEvo b B C) : BEvo b A C where
  os := k.os.trans h.os
  tape := k.tape.trans h.tape
  output := k.output.trans h.output
  size := Nat.le_trans h.size k.size
  kept b hb := (k.kept b (hb.imp (h.im b) (h.keep b))).trans (h.kept b hb)
  im b hb := k.im b (h.im b hb)
  keep b hb := k.keep b (h.keep b hb)
  fresh b hb := (k.fresh b hb).elim (h.fresh b) (fun hn => .inr fun hk => hn (h.keep b hk))
  n := k.n
  cur g hg := Nat.le_trans (h.cur g hg) (k.cur g hg)
  same g hg e := by
    have h1 := h.cur g hg
    have h2 := k.cur g hg
    have e1 : B.cur g = A.cur g := by omega
    have e2 : C.cur g = B.cur g := by omega
    obtain ⟨p1, p2, p3⟩ := h.same g hg e1
    obtain ⟨q1, q2, q3⟩ := k.same g hg e2
    exact ⟨q1.trans p1, q2.trans p2, q3.trans p3⟩

/-- How a piece of code is left. -/
inductive Ex where
  | normal
  | exit (id : Nat)
  | ret

def Ex.up : Ex → Exit
  | .normal => .normal
  | .exit id => .exit id
  | .ret => .ret

/-- What holds behind a piece of code. -/
def After (S : MS) (n b : Nat) (Q : Ex → Env → AHeap → Prop) (e : Exit) (a : Act) (w : World) : Prop :=
  ∃ S' env H' x, S'.w = w ∧ BEvo b S S' ∧ SRel S' H' ∧ FRel S' n env a ∧ e = Ex.up x ∧ Q x env H'

def T (P : Program) (n b : Nat) (c : AC) (env : Env) (H : AHeap) (Q : Ex → Env → AHeap → Prop) : Prop :=
  ∀ code, compC P n code = some c → ∀ S a, b ≤ S.n → SRel S H → FRel S n env a → code.wp P (After S n b Q) a S.w

section
variable {P : Program} {n b : Nat} {env : Env} {H : AHeap} {Q : Ex → Env → AHeap → Prop}

theorem After.trans {S S' : MS} (e : BEvo b S S') {Q : Ex → Env → AHeap → Prop} {x : Exit} {a : Act} {w : World} (h : After S' n b Q x a w) : After S n b Q x a w :=
  let ⟨S2, env, H', y, h1, h2, h3, h4, h5, h6⟩ := h
  ⟨S2, env, H', y, h1, e.trans h2, h3, h4, h5, h6⟩

theorem After.mono {S : MS} {Q Q' : Ex → Env → AHeap → Prop} (hq : ∀ x env H, Q x env H → Q' x env H) {x : Exit} {a : Act} {w : World} (h : After S n b Q x a w) : After S n b Q' x a w :=
  let ⟨S2, env, H', y, h1, h2, h3, h4, h5, h6⟩ := h
  ⟨S2, env, H', y, h1, h2, h3, h4, h5, hq _ _ _ h6⟩

theorem T.mono {c : AC} {Q' : Ex → Env → AHeap → Prop} (h : T P n b c env H Q) (hq : ∀ x env H, Q x env H → Q' x env H) : T P n b c env H Q' :=
  fun code hc S a hb hS hF => wp_mono (h code hc S a hb hS hF) fun _ _ _ hh => hh.mono hq

/-- The scope rule: a scope is passed through. -/
theorem wp_scope' {c : Code} {S : MS} {a : Act} {w : World} (h : c.wp P (After S n b Q) a w) : (Code.scope c).wp P (After S n b Q) a w := by
  refine wp_scope_straight (wp_mono h fun e a w hh => ?_)
  obtain ⟨S2, env, H', y, h1, h2, h3, h4, h5, h6⟩ := hh
  subst h5
  cases y <;> exact ⟨S2, env, H', _, h1, h2, h3, h4, rfl, h6⟩

/-- A code that is read as c, behind its scopes. -/
theorem compC_ind {c : AC} {S : MS} {a : Act} {w : World} (h : ∀ code, compC P n code = some c → (∀ d, code ≠ .scope d) → code.wp P (After S n b Q) a w) : ∀ code, compC P n code = some c → code.wp P (After S n b Q) a w
  | .scope d, hc => wp_scope' (compC_ind h d (by simpa [compC] using hc))
  | .skip, hc => h _ hc (by simp)
  | .region .., hc => h _ hc (by simp)
  | .seq .., hc => h _ hc (by simp)
  | .cond .., hc => h _ hc (by simp)
  | .block .., hc => h _ hc (by simp)
  | .loop _, hc => h _ hc (by simp)
  | .rangeFunc .., hc => h _ hc (by simp)
  | .exit _, hc => h _ hc (by simp)
  | .label _, hc => h _ hc (by simp)
  | .goto _, hc => h _ hc (by simp)
  | .ret, hc => h _ hc (by simp)
  | .refuse _, hc => h _ hc (by simp)

theorem T_of {c : AC} (h : ∀ code, compC P n code = some c → (∀ d, code ≠ .scope d) → ∀ S a, b ≤ S.n → SRel S H → FRel S n env a → code.wp P (After S n b Q) a S.w) : T P n b c env H Q :=
  fun code hc S a hb hS hF => compC_ind (fun code hc hs => h code hc hs S a hb hS hF) code hc

theorem compReg_cases {ops : Array Oper} {draw : Bool} {l : List AOp} {c : AC} (h : compReg P ops draw l = some c) :
    (draw = false ∧ c = .reg l) ∨ (draw = true ∧ P.follows .mixedOrders = true ∧ Region.lexB .any ops = true ∧ c = .dreg l) ∨ (draw = true ∧ ∃ m, P.follows .mixedOrders = true ∧ Region.lexTailB .any ops m = true ∧ c = .dtl (l.take m) (l.drop m)) ∨ (draw = true ∧ P.follows .mixedOrders = true ∧ Region.lexB .any ops = true ∧ pairsB .any ops l = true ∧ c = .greg l) := by
  unfold compReg at h
  split at h
  · rename_i hd
    split at h
    · rename_i hf
      split at h
      · split at h
        · rename_i hB; cases h; exact .inr (.inl ⟨hd, hf, hB, rfl⟩)
        · cases h
      · split at h
        · rename_i hB; cases h; exact .inr (.inr (.inl ⟨hd, _, hf, hB, rfl⟩))
        · split at h
          · rename_i hB
            cases h
            simp only [Bool.and_eq_true] at hB
            exact .inr (.inr (.inr ⟨hd, hf, hB.1, hB.2, rfl⟩))
          · cases h
    · cases h
  · rename_i hd; cases h; exact .inl ⟨by simpa using hd, rfl⟩
theorem compReg_reg {ops : Array Oper} {draw : Bool} {l l' : List AOp} (h : compReg P ops draw l = some (.reg l')) : draw = false ∧ l' = l := by
  rcases compReg_cases h with ⟨h1, h2⟩ | ⟨_, _, _, h2⟩ | ⟨_, _, _, _, h2⟩ | ⟨_, _, _, _, h2⟩ <;> cases h2; exact ⟨h1, rfl⟩
theorem compReg_dreg {ops : Array Oper} {draw : Bool} {l l' : List AOp} (h : compReg P ops draw l = some (.dreg l')) : draw = true ∧ P.follows .mixedOrders = true ∧ Region.lexB .any ops = true ∧ l' = l := by
  rcases compReg_cases h with ⟨_, h2⟩ | ⟨h1, h3, h4, h2⟩ | ⟨_, _, _, _, h2⟩ | ⟨_, _, _, _, h2⟩ <;> cases h2; exact ⟨h1, h3, h4, rfl⟩
theorem compReg_dtl {ops : Array Oper} {draw : Bool} {l p q : List AOp} (h : compReg P ops draw l = some (.dtl p q)) : draw = true ∧ ∃ m, P.follows .mixedOrders = true ∧ Region.lexTailB .any ops m = true ∧ p = l.take m ∧ q = l.drop m := by
  rcases compReg_cases h with ⟨_, h2⟩ | ⟨_, _, _, h2⟩ | ⟨h1, m, h3, h4, h2⟩ | ⟨_, _, _, _, h2⟩ <;> cases h2; exact ⟨h1, m, h3, h4, rfl, rfl⟩
theorem compReg_greg {ops : Array Oper} {draw : Bool} {l l' : List AOp} (h : compReg P ops draw l = some (.greg l')) : draw = true ∧ P.follows .mixedOrders = true ∧ Region.lexB .any ops = true ∧ pairsB .any ops l = true ∧ l' = l := by
  rcases compReg_cases h with ⟨_, h2⟩ | ⟨_, _, _, h2⟩ | ⟨_, _, _, _, h2⟩ | ⟨h1, h3, h4, h5, h2⟩ <;> cases h2; exact ⟨h1, h3, h4, h5, rfl⟩
def AC.isReg : AC → Bool
  | .reg _ | .dreg _ | .dtl _ _ | .greg _ => true
  | _ => false
theorem compReg_isReg {ops : Array Oper} {draw : Bool} {l : List AOp} {c : AC} (h : compReg P ops draw l = some c) : c.isReg = true := by
  rcases compReg_cases h with ⟨_, rfl⟩ | ⟨_, _, _, rfl⟩ | ⟨_, _, _, _, rfl⟩ | ⟨_, _, _, _, rfl⟩ <;> rfl
theorem compReg_ne {ops : Array Oper} {draw : Bool} {o : Option (List AOp)} {c : AC} (hc : c.isReg = false := by rfl) : ¬ (match o with | some l => compReg P ops draw l | none => none) = some c := by
  intro h
  split at h
  · rw [compReg_isReg h] at hc; cases hc
  · cases h

theorem T_skip (h : Q .normal env H) : T P n b .skip env H Q := T_of fun code hc hs S a hb hS hF => by
  have hA : After S n b Q .normal a S.w := ⟨S, env, H, .normal, rfl, .refl hb, hS, hF, rfl, h⟩
  cases code <;> simp only [compC, reduceCtorEq, Option.some.injEq] at hc
  case skip => exact wp_skip hA
  case label => exact wp_label hA
  case region => exact absurd hc compReg_ne
  case seq => split at hc <;> cases hc
  case cond => split at hc <;> cases hc
  case block => obtain ⟨_, _, h⟩ := Option.map_eq_some_iff.1 hc; cases h
  case loop => obtain ⟨_, _, h⟩ := Option.map_eq_some_iff.1 hc; cases h
  case scope d => exact absurd rfl (hs d)

theorem T_reg {ops : List AOp} (h : runK P ops env H fun env' H' => Q .normal env' H') : T P n b (.reg ops) env H Q := T_of fun code hc hs S a hb hS hF => by
  cases code <;> simp only [compC, reduceCtorEq, Option.some.injEq] at hc
  case region id l draw =>
    split at hc
    · rename_i r hr
      obtain ⟨hd', rfl⟩ := compReg_reg hc
      · subst hd'
        refine wp_region ?_
        have := run_sound l.toList ops 0 (by simp) hr hS hF h (Q := After S n b Q) fun S' H' env' a' e hS' hF' hK => ⟨S', env', H', .normal, rfl, e.down hb, hS', hF', rfl, hK⟩
        rw [List.range_eq_range']
        simpa using this
    · cases hc
  case seq => split at hc <;> cases hc
  case cond => split at hc <;> cases hc
  case block => obtain ⟨_, _, h⟩ := Option.map_eq_some_iff.1 hc; cases h
  case loop => obtain ⟨_, _, h⟩ := Option.map_eq_some_iff.1 hc; cases h
  case scope d => exact absurd rfl (hs d)

theorem T_dreg {ops : List AOp} (h : runQ P H ops env fun env' => Q .normal env' H) : T P n b (.dreg ops) env H Q := T_of fun code hc hs S a hb hS hF => by
  cases code <;> simp only [compC, reduceCtorEq, Option.some.injEq] at hc
  case region id l draw =>
    split at hc
    · rename_i r hr
      obtain ⟨hd', h1, h2, rfl⟩ := compReg_dreg hc
      subst hd'
      exact draw_sound h1 h2 hr hS hF h fun S' env' a' e hS' hF' hK => ⟨S', env', H, .normal, rfl, e.down hb, hS', hF', rfl, hK⟩
    · cases hc
  case seq => split at hc <;> cases hc
  case cond => split at hc <;> cases hc
  case block => obtain ⟨_, _, h⟩ := Option.map_eq_some_iff.1 hc; cases h
  case loop => obtain ⟨_, _, h⟩ := Option.map_eq_some_iff.1 hc; cases h
  case scope d => exact absurd rfl (hs d)

theorem T_dtl {pre post : List AOp} (h : runQ P H pre env fun env' => runK P post env' H fun env' H' => Q .normal env' H') : T P n b (.dtl pre post) env H Q := T_of fun code hc hs S a hb hS hF => by
  cases code <;> simp only [compC, reduceCtorEq, Option.some.injEq] at hc
  case region id l draw =>
    split at hc
    · rename_i r hr
      obtain ⟨hd', m, h1, h2, rfl, rfl⟩ := compReg_dtl hc
      subst hd'
      exact draw_tail h1 h2 hr hS hF h fun S' H' env' a' e hS' hF' hK => ⟨S', env', H', .normal, rfl, e.down hb, hS', hF', rfl, hK⟩
    · cases hc
  case seq => split at hc <;> cases hc
  case cond => split at hc <;> cases hc
  case block => obtain ⟨_, _, h⟩ := Option.map_eq_some_iff.1 hc; cases h
  case loop => obtain ⟨_, _, h⟩ := Option.map_eq_some_iff.1 hc; cases h
  case scope d => exact absurd rfl (hs d)

theorem T_greg {L : List AOp} {l : List Grp} (h : runG P L env l fun env' l' => Q .normal env' (hl l')) : T P n b (.greg L) env (hl l) Q := T_of fun code hc hs S a hb hS hF => by
  cases code <;> simp only [compC, reduceCtorEq, Option.some.injEq] at hc
  case region id ops draw =>
    split at hc
    · rename_i r hr
      obtain ⟨hd', h1, h2, h3, rfl⟩ := compReg_greg hc
      subst hd'
      exact draw_any h1 h2 h3 hr hS hF h fun S' env' l' a' e hS' hF' hK => ⟨S', env', hl l', .normal, rfl, e.down hb, hS', hF', rfl, hK⟩
    · cases hc
  case seq => split at hc <;> cases hc
  case cond => split at hc <;> cases hc
  case block => obtain ⟨_, _, h⟩ := Option.map_eq_some_iff.1 hc; cases h
  case loop => obtain ⟨_, _, h⟩ := Option.map_eq_some_iff.1 hc; cases h
  case scope d => exact absurd rfl (hs d)

/-- Where c goes on, the rest does. -/
def Ex.then (K : Env → AHeap → Prop) (Q : Ex → Env → AHeap → Prop) : Ex → Env → AHeap → Prop
  | .normal, env, H => K env H
  | x, env, H => Q x env H

theorem T_seq {x y : AC} (h : T P n b x env H (Ex.then (fun env' H' => T P n b y env' H' Q) Q)) : T P n b (.seq x y) env H Q := T_of fun code hc hs S a hb hS hF => by
  cases code <;> simp only [compC, reduceCtorEq, Option.some.injEq] at hc
  case seq c d =>
    split at hc
    · rename_i x' y' hx hy
      cases hc
      refine wp_seq (wp_mono (h c hx S a hb hS hF) fun e a' w' hh => ?_)
      obtain ⟨S2, env2, H2, z, rfl, e2, hS2, hF2, rfl, hq⟩ := hh
      cases z with
      | normal => exact wp_mono (hq d hy S2 a' e2.n hS2 hF2) fun _ _ _ hh => hh.trans e2
      | exit id => exact ⟨S2, env2, H2, .exit id, rfl, e2, hS2, hF2, rfl, hq⟩
      | ret => exact ⟨S2, env2, H2, .ret, rfl, e2, hS2, hF2, rfl, hq⟩
    · cases hc
  case region => exact absurd hc compReg_ne
  case cond => split at hc <;> cases hc
  case block => obtain ⟨_, _, h⟩ := Option.map_eq_some_iff.1 hc; cases h
  case loop => obtain ⟨_, _, h⟩ := Option.map_eq_some_iff.1 hc; cases h
  case scope d => exact absurd rfl (hs d)

theorem T_cond {c : AArg} {x y : AC} {q : Bool} (hc : c.eval env = .bool q) (ht : q = true → T P n b x env H Q) (hf : q = false → T P n b y env H Q) : T P n b (.cond c x y) env H Q := T_of fun code hcc hs S a hb hS hF => by
  cases code <;> simp only [compC, reduceCtorEq, Option.some.injEq] at hcc
  case cond z p q' =>
    split at hcc
    · rename_i z' p2 q2 hz hp hq
      cases hcc
      have hv := arg_rel hF hz
      rw [hc] at hv
      exact wp_cond_split (t := q) hv (fun hbb => ht hbb p hp S a hb hS hF) (fun hbb => hf hbb q' hq S a hb hS hF)
    · cases hcc
  case region => exact absurd hcc compReg_ne
  case seq => split at hcc <;> cases hcc
  case block => obtain ⟨_, _, h⟩ := Option.map_eq_some_iff.1 hcc; cases h
  case loop => obtain ⟨_, _, h⟩ := Option.map_eq_some_iff.1 hcc; cases h
  case scope d => exact absurd rfl (hs d)

/-- A block is left by its own exit. -/
def Ex.inBlock (id : Nat) (Q : Ex → Env → AHeap → Prop) : Ex → Env → AHeap → Prop
  | .exit k, env, H => if k = id then Q .normal env H else Q (.exit k) env H
  | x, env, H => Q x env H

theorem T_block {id : Nat} {c : AC} (h : T P n b c env H (Ex.inBlock id Q)) : T P n b (.block id c) env H Q := T_of fun code hc hs S a hb hS hF => by
  cases code <;> simp only [compC, reduceCtorEq, Option.some.injEq] at hc
  case block k d =>
    obtain ⟨x, hx, hh⟩ := Option.map_eq_some_iff.1 hc
    cases hh
    refine wp_block (wp_mono (h d hx S a hb hS hF) fun e a' w' hh => ?_)
    obtain ⟨S2, env2, H2, z, h1, e2, hS2, hF2, rfl, hq⟩ := hh
    cases z with
    | normal => exact ⟨S2, env2, H2, .normal, h1, e2, hS2, hF2, rfl, hq⟩
    | exit j =>
      simp only [Ex.up, Exit.inBlock]
      simp only [Ex.inBlock] at hq
      split
      · rename_i hj; rw [if_pos hj] at hq; exact ⟨S2, env2, H2, .normal, h1, e2, hS2, hF2, rfl, hq⟩
      · rename_i hj; rw [if_neg hj] at hq; exact ⟨S2, env2, H2, .exit j, h1, e2, hS2, hF2, rfl, hq⟩
    | ret => exact ⟨S2, env2, H2, .ret, h1, e2, hS2, hF2, rfl, hq⟩
  case region => exact absurd hc compReg_ne
  case seq => split at hc <;> cases hc
  case cond => split at hc <;> cases hc
  case loop => obtain ⟨_, _, h⟩ := Option.map_eq_some_iff.1 hc; cases h
  case scope d => exact absurd rfl (hs d)

theorem T_exit {id : Nat} (h : Q (.exit id) env H) : T P n b (.exit id) env H Q := T_of fun code hc hs S a hb hS hF => by
  cases code <;> simp only [compC, reduceCtorEq, Option.some.injEq] at hc
  case exit k => cases hc; exact wp_exit ⟨S, env, H, .exit id, rfl, .refl hb, hS, hF, rfl, h⟩
  case region => exact absurd hc compReg_ne
  case seq => split at hc <;> cases hc
  case cond => split at hc <;> cases hc
  case block => obtain ⟨_, _, h⟩ := Option.map_eq_some_iff.1 hc; cases h
  case loop => obtain ⟨_, _, h⟩ := Option.map_eq_some_iff.1 hc; cases h
  case scope d => exact absurd rfl (hs d)

theorem T_ret (h : Q .ret env H) : T P n b .ret env H Q := T_of fun code hc hs S a hb hS hF => by
  cases code <;> simp only [compC, reduceCtorEq, Option.some.injEq] at hc
  case ret => exact wp_ret ⟨S, env, H, .ret, rfl, .refl hb, hS, hF, rfl, h⟩
  case region => exact absurd hc compReg_ne
  case seq => split at hc <;> cases hc
  case cond => split at hc <;> cases hc
  case block => obtain ⟨_, _, h⟩ := Option.map_eq_some_iff.1 hc; cases h
  case loop => obtain ⟨_, _, h⟩ := Option.map_eq_some_iff.1 hc; cases h
  case scope d => exact absurd rfl (hs d)

/-- A LOOP: a state s, of which the slots and the groups hang; each round hands on a state of a smaller measure. -/
theorem T_loop {σ : Type} (Inv : σ → Env → AHeap → Prop) (μ : σ → Nat) {c : AC} (s0 : σ) (h0 : Inv s0 env H)
    (round : ∀ s env H, Inv s env H → T P n b c env H (Ex.then (fun env' H' => ∃ s', Inv s' env' H' ∧ μ s' < μ s) Q)) : T P n b (.loop c) env H Q := T_of fun code hc hs S a hb hS hF => by
  cases code <;> simp only [compC, reduceCtorEq, Option.some.injEq] at hc
  case loop d =>
    obtain ⟨x, hx, hh⟩ := Option.map_eq_some_iff.1 hc
    cases hh
    refine wp_loop_ghost (fun k a w => ∃ S' s env H, S'.w = w ∧ BEvo b S S' ∧ SRel S' H ∧ FRel S' n env a ∧ Inv s env H ∧ μ s = k) (μ s0) ⟨S, s0, env, H, rfl, .refl hb, hS, hF, h0, rfl⟩ ?_
    rintro k a w ⟨S1, s, env1, H1, rfl, e1, hS1, hF1, hI, rfl⟩
    refine wp_mono (round s env1 H1 hI d hx S1 a e1.n hS1 hF1) fun e a' w' hh => ?_
    obtain ⟨S2, env2, H2, z, rfl, e2, hS2, hF2, rfl, hq⟩ := hh
    cases z with
    | normal =>
      obtain ⟨s', h1, h2⟩ := hq
      exact ⟨μ s', h2, S2, s', env2, H2, rfl, e1.trans e2, hS2, hF2, h1, rfl⟩
    | exit id => exact ⟨S2, env2, H2, .exit id, rfl, e1.trans e2, hS2, hF2, rfl, hq⟩
    | ret => exact ⟨S2, env2, H2, .ret, rfl, e1.trans e2, hS2, hF2, rfl, hq⟩
  case region => exact absurd hc compReg_ne
  case seq => split at hc <;> cases hc
  case cond => split at hc <;> cases hc
  case block => obtain ⟨_, _, h⟩ := Option.map_eq_some_iff.1 hc; cases h
  case scope d => exact absurd rfl (hs d)

/-! ### Functions -/
def resK (P : Program) : List ARes → Env → AHeap → (List AV → Prop) → Prop
  | [], _, _, K => K []
  | .slot t :: l, env, H, K => resK P l env H fun xs => K (env t :: xs)
  | .cell t a s :: l, env, H, K => stepA P (.load a s) H [env t] fun x _ => resK P l env H fun xs => K (x :: xs)

def resV : List AV → AV
  | [x] => x
  | xs => .tup xs

/-- What holds where a function returns. -/
def Ret (P : Program) (res : List ARes) (K : AV → AHeap → Prop) (x : Ex) (env : Env) (H : AHeap) : Prop :=
  (match x with | .exit _ => False | _ => True) ∧ resK P res env H fun xs => K (resV xs) H

def entry (xs : List AV) : Env := fun i => xs.getD i .any

theorem compRes_slot {r : ResultVar} {t : Nat} (h : compRes P n r = some (.slot t)) : r = .tmp t ∧ t < n := by
  cases r <;> simp only [compRes] at h
  · split at h
    · rename_i hlt; cases h; exact ⟨rfl, hlt⟩
    · cases h
  · split at h
    · obtain ⟨_, _, h⟩ := Option.map_eq_some_iff.1 h; cases h
    · cases h

theorem compRes_cell {r : ResultVar} {t : Nat} {a : Bool} {s : Nat} (h : compRes P n r = some (.cell t a s)) : ∃ ty, r = .cell t ty ∧ t < n ∧ aggSize P ty = some (a, s) := by
  cases r <;> simp only [compRes] at h
  · split at h <;> cases h
  · split at h
    · rename_i hlt
      obtain ⟨⟨a', s'⟩, h1, h2⟩ := Option.map_eq_some_iff.1 h
      cases h2
      exact ⟨_, rfl, hlt, h1⟩
    · cases h

def resSem (tmps : Array Value) : ResultVar → Sem Value
  | .tmp t => pure (tmps.getD t undef)
  | .cell ad t => do loadVar t (← asAddr (tmps.getD ad undef))

theorem results_ok {S : MS} {a : Act} (hS : SRel S H) (hF : FRel S n env a) : ∀ {rs : List ResultVar} {l : List ARes} {K : List AV → Prop}, rs.mapM (compRes P n) = some l → resK P l env H K →
    ∃ vs xs, (rs.mapM (resSem a.tmps)).run P S.w = .ok vs S.w ∧ VsRel S xs vs ∧ K xs
  | [], l, K, hm, h => by
    simp at hm
    subst hm
    exact ⟨[], [], rfl, rfl, h⟩
  | r :: rs, l, K, hm, h => by
    rw [List.mapM_cons] at hm
    simp only [Option.bind_eq_bind, Option.bind_eq_some_iff, Option.pure_def, Option.some.injEq] at hm
    obtain ⟨q, hq, l', hl', rfl⟩ := hm
    cases q with
    | slot t =>
      obtain ⟨rfl, ht⟩ := compRes_slot hq
      obtain ⟨vs, xs, h1, h2, h3⟩ := results_ok hS hF hl' h
      refine ⟨_ :: vs, env t :: xs, ?_, ⟨_, vs, rfl, hF.val t ht, h2⟩, h3⟩
      have h0 : (resSem a.tmps (.tmp t)).run P S.w = .ok (a.tmps.getD t undef) S.w := rfl
      rw [List.mapM_cons]
      simp only [Sem.run_bind, Sem.run_pure, Result.andThen_ok, h0, h1]
    | cell t ag s =>
      obtain ⟨ty, rfl, ht, hs⟩ := compRes_cell hq
      have hv := hF.val t ht
      obtain ⟨ad, u, z, hvv, hrun, hz, hK⟩ := load_raw hS ty hs hv h
      obtain ⟨vs, xs, h1, h2, h3⟩ := results_ok hS hF hl' hK
      refine ⟨u :: vs, z :: xs, ?_, ⟨u, vs, rfl, hz, h2⟩, h3⟩
      have h0 : (resSem a.tmps (.cell t ty)).run P S.w = .ok u S.w := by simp only [resSem, hvv, asAddr, Sem.run_bind, Sem.run_pure, Result.andThen_ok, hrun]
      rw [List.mapM_cons]
      simp only [Sem.run_bind, Sem.run_pure, Result.andThen_ok, h0, h1]

theorem resV_rel {S : MS} {xs : List AV} {vs : List Value} (h : VsRel S xs vs) : VRel S (resV xs) (if h : vs.toArray.size = 1 then vs.toArray[0] else .tuple vs.toArray) := by
  match xs, vs, h with
  | [], [], _ => exact ⟨[], rfl, rfl⟩
  | [x], [v], h => exact h.inv1
  | x :: y :: xs, u :: v :: vs, h =>
    have hne : ¬ (u :: v :: vs).toArray.size = 1 := by simp
    rw [dif_neg hne]
    exact ⟨_, rfl, h⟩
  | [], _ :: _, h => have := h.length; simp at this
  | [_], [], h => have := h.length; simp at this
  | [_], _ :: _ :: _, h => have := h.length; simp at this
  | _ :: _ :: _, [], h => have := h.length; simp at this
  | _ :: _ :: _, [_], h => have := h.length; simp at this

theorem compFn_spec {f np : Nat} {fn : AFn} (h : compFn P f np = some fn) : ∃ F c, P.funcs[f]? = some F ∧ F.body = some c ∧ F.ntmps = fn.n ∧ compC P fn.n c = some fn.body ∧ F.results.toList.mapM (compRes P fn.n) = some fn.res ∧ np ≤ fn.n ∧ F.name ≠ "runtime.NumGoroutine" := by
  unfold compFn at h
  split at h
  · rename_i F hF
    split at h
    · rename_i c hc
      split at h
      · rename_i b r hb hr
        split at h
        · rename_i hcond
          cases h
          simp only [Bool.and_eq_true, decide_eq_true_eq, bne_iff_ne] at hcond
          exact ⟨F, c, hF, hc, rfl, hb, hr, hcond.1, hcond.2⟩
        · cases h
      · cases h
    · cases h
  · cases h

theorem enters_of {f np : Nat} {fn : AFn} (h : compFn P f np = some fn) : Enters P f := by
  obtain ⟨F, c, hF, hc, _, _, _, _, hn⟩ := compFn_spec h
  intro cargs w
  have h1 : (F.name == "runtime.NumGoroutine") = false := by simpa using hn
  simp [callFunc, Sem.run_bind, run_program, hF, hn, hc]

/-- WHAT A FUNCTION DOES, FROM WHAT ITS CODE DOES. -/
theorem acalls {f : Nat} {xs : List AV} {fn : AFn} (hf : compFn P f xs.length = some fn) {K : AV → AHeap → Prop} (h : T P fn.n H.n fn.body (entry xs) H (Ret P fn.res K)) : ACalls P f xs H K := by
  refine ⟨enters_of hf, fun S cargs hS hx => ?_⟩
  obtain ⟨F, c, hF, hb, hn, hc, hr, hnp, _⟩ := compFn_spec hf
  have hlen := hx.length
  refine calls_of_wp hF hb ?_
  have hfr : FRel S fn.n (entry xs) { tmps := cargs.toArray ++ Array.replicate (F.ntmps - cargs.toArray.size) undef, defers := [] } := by
    refine ⟨by simp; omega, rfl, fun i hi => ?_⟩
    by_cases hlt : i < xs.length
    · obtain ⟨v, hv, hr⟩ := hx.get (List.getElem?_eq_getElem hlt)
      have e1 : entry xs i = xs[i] := by simp [entry, List.getD, List.getElem?_eq_getElem hlt]
      have e2 : (cargs.toArray ++ Array.replicate (F.ntmps - cargs.toArray.size) undef).getD i undef = v := by
        rw [Array.getD_eq_getD_getElem?, Array.getElem?_append_left (by simp; omega)]
        simp [hv]
      rw [e1, e2]
      exact hr
    · have e1 : entry xs i = .any := by simp [entry, List.getD, List.getElem?_eq_none (Nat.le_of_not_lt hlt)]
      rw [e1]
      trivial
  refine wp_mono (h c hc S _ (by rw [hS.n]; exact Nat.le_refl _) hS hfr) fun e a w' hh => ?_
  obtain ⟨S2, env2, H2, z, rfl, e2, hS2, hF2, rfl, hq, hres⟩ := hh
  have fin : bodyPost P F (fun e w' => ∃ v S' x H', e = .returned v ∧ S'.w = w' ∧ Evo S S' ∧ SRel S' H' ∧ VRel S' x v ∧ K x H') .ret a S2.w := by
    obtain ⟨vs, ys, h1, h2, h3⟩ := results_ok hS2 hF2 hr hres
    refine ⟨hF2.defers, _, ?_, _, S2, _, H2, rfl, rfl, BEvo.up (by rw [hS.n]; exact e2), hS2, resV_rel h2, h3⟩
    have e : results F a.tmps = (do let vs ← F.results.mapM (resSem a.tmps); pure (if h : vs.size = 1 then vs[0] else .tuple vs)) := by
      unfold results
      congr
    rw [e, Array.mapM_eq_mapM_toList]
    simp only [Sem.run_bind, Sem.run_map, h1, Result.andThen_ok, Sem.run_pure]
  cases z with
  | normal => exact fin
  | exit id => exact hq.elim
  | ret => exact fin

end
end Go.Proofs.Ytdmjhlofphhldaa.Abs
