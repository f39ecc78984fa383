/-
  Code, piece by piece: 'T c env H Q': from data env and groups H the code goes through, and Q holds of where it goes on, of the data and of the groups.
-/
import Derived.Test.YtdmjhlofphhldaaAbsX
import Derived.Deep.LoopGhost
import Derived.Scope
import Derived.Sort.LoopGhostIn
import Derived.RangeFuncNested
set_option linter.unusedSimpArgs false
set_option linter.unusedVariables false
namespace Go.Proofs.Ytdmjhlofphhldaa.Abs

/-- From S to S', seen from a caller: what was never written again hasn't been written, and the first b groups keep their places while they keep their versions. -/
structure BEvo (b : Nat) (S S' : MS) : Prop where
  base : S'.base = S.base
  os : S'.w.os = S.w.os
  tape : S'.w.tape = S.w.tape
  output : S'.w.output = S.w.output
  size : S.w.heap.size ≤ S'.w.heap.size
  kept : ∀ b, S.im b ∨ S.keep b → S'.w.heap[b]? = S.w.heap[b]?
  im : ∀ b, S.im b → S'.im b
  keep : ∀ b, S.keep b → S'.keep b
  fresh : ∀ b, S'.im b → S.im b ∨ ¬ S.keep b
  n : b ≤ S'.n
  cur : ∀ g, g < b → S.cur g ≤ S'.cur g
  same : ∀ g, g < b → S'.cur g = S.cur g → S'.place g = S.place g ∧ S'.cap g = S.cap g ∧ S'.wid g = S.wid g

theorem Evo.down {S S' : MS} {b : Nat} (e : Evo S S') (hb : b ≤ S.n) : BEvo b S S' :=
  ⟨e.base, e.os, e.tape, e.output, e.size, e.kept, e.im, e.keep, e.fresh, Nat.le_trans hb e.n, fun g hg => e.cur g (Nat.lt_of_lt_of_le hg hb), fun g hg => e.same g (Nat.lt_of_lt_of_le hg hb)⟩
theorem BEvo.up {S S' : MS} (e : BEvo S.n S S') : Evo S S' :=
  ⟨e.base, e.os, e.tape, e.output, e.size, e.kept, e.im, e.keep, e.fresh, e.n, e.cur, e.same⟩
theorem BEvo.refl {b : Nat} {S : MS} (hb : b ≤ S.n) : BEvo b S S := (Evo.refl S).down hb
theorem BEvo.trans {b : Nat} {A B C : MS} (h : BEvo b A B) (k : BEvo b B C) : BEvo b A C where
  base := k.base.trans h.base
  os := k.os.trans h.os
  tape := k.tape.trans h.tape
  output := k.output.trans h.output
  size := Nat.le_trans h.size k.size
  kept b hb := (k.kept b (hb.imp (h.im b) (h.keep b))).trans (h.kept b hb)
  im b hb := k.im b (h.im b hb)
  keep b hb := k.keep b (h.keep b hb)
  fresh b hb := (k.fresh b hb).elim (h.fresh b) (fun hn => .inr fun hk => hn (h.keep b hk))
  n := k.n
  cur g hg := Nat.le_trans (h.cur g hg) (k.cur g hg)
  same g hg e := by
    have h1 := h.cur g hg
    have h2 := k.cur g hg
    have e1 : B.cur g = A.cur g := by omega
    have e2 : C.cur g = B.cur g := by omega
    obtain ⟨p1, p2, p3⟩ := h.same g hg e1
    obtain ⟨q1, q2, q3⟩ := k.same g hg e2
    exact ⟨q1.trans p1, q2.trans p2, q3.trans p3⟩

/-- How a piece of code is left. -/
inductive Ex where
  | normal
  | exit (id : Nat)
  | ret

def Ex.up : Ex → Exit
  | .normal => .normal
  | .exit id => .exit id
  | .ret => .ret

/-- What holds behind a piece of code. -/
def After (S : MS) (n b : Nat) (Q : Ex → Env → AHeap → Prop) (e : Exit) (a : Act) (w : World) : Prop :=
  ∃ S' env H' x, S'.w = w ∧ BEvo b S S' ∧ SRel S' H' ∧ FRel S' n env a ∧ e = Ex.up x ∧ Q x env H'

def T (P : Program) (n b : Nat) (c : AC) (env : Env) (H : AHeap) (Q : Ex → Env → AHeap → Prop) : Prop :=
  ∀ (rd : Option Nat) (mm : Nat) (_ : c.free = true ∨ rd = none) code, compC P n code = some c → ∀ S a, b ≤ S.n → SRel S H → FRel S n env a → code.wpIn (fen rd) mm P (After S n b Q) a S.w

section
variable {P : Program} {n b : Nat} {env : Env} {H : AHeap} {Q : Ex → Env → AHeap → Prop}

theorem free2 {x y : Bool} {q : Prop} (h : (x && y) = true ∨ q) : (x = true ∨ q) ∧ (y = true ∨ q) := by
  rcases h with h | h
  · rw [Bool.and_eq_true] at h; exact ⟨.inl h.1, .inl h.2⟩
  · exact ⟨.inr h, .inr h⟩
theorem After.trans {S S' : MS} (e : BEvo b S S') {Q : Ex → Env → AHeap → Prop} {x : Exit} {a : Act} {w : World} (h : After S' n b Q x a w) : After S n b Q x a w :=
  let ⟨S2, env, H', y, h1, h2, h3, h4, h5, h6⟩ := h
  ⟨S2, env, H', y, h1, e.trans h2, h3, h4, h5, h6⟩

theorem After.mono {S : MS} {Q Q' : Ex → Env → AHeap → Prop} (hq : ∀ x env H, Q x env H → Q' x env H) {x : Exit} {a : Act} {w : World} (h : After S n b Q x a w) : After S n b Q' x a w :=
  let ⟨S2, env, H', y, h1, h2, h3, h4, h5, h6⟩ := h
  ⟨S2, env, H', y, h1, h2, h3, h4, h5, hq _ _ _ h6⟩

theorem T.mono {c : AC} {Q' : Ex → Env → AHeap → Prop} (h : T P n b c env H Q) (hq : ∀ x env H, Q x env H → Q' x env H) : T P n b c env H Q' :=
  fun rd mm hrd code hc S a hb hS hF => wpIn_mono (h rd mm hrd code hc S a hb hS hF) fun _ _ _ hh => hh.mono hq

/-- The scope rule: a scope is passed through. -/
theorem wpIn_scope_straight {F : Fence} {mm : Nat} {c : Code} {a : Act} {w : World} {R : Exit → Act → World → Prop} (h : c.wpIn F mm P (Exit.noGoto R) a w) : (Code.scope c).wpIn F mm P R a w := by
  intro b k cs hro hb hr
  have h0 : (lone (b.atR a (.code (.scope c) :: k)) cs w).fenced P F := fenced_calm hb hr rfl
  obtain ⟨e, a₁, w₁, hq, harr⟩ := h b (.inScope c :: k) cs hro hb hr
  have hs : step P (lone (b.atR a (.code (.scope c) :: k)) cs w) = .next (lone (b.atR a (.code c :: .inScope c :: k)) cs w) := step_lone_go (by simp [stepG, stepG.exec, Frame.atR])
  have hs2 : step P (lone (b.atR a₁ (.inScope c :: k)) cs w₁) = .next (lone (b.atR a₁ k) cs w₁) := step_lone_go (by simp [stepG, stepG.exec, Frame.atR])
  cases e with
  | normal => exact ⟨.normal, a₁, w₁, hq, .head h0 hs (StepsIn.trans harr (.one (fenced_calm hb hr rfl) hs2))⟩
  | exit id => exact ⟨.exit id, a₁, w₁, hq, fun k' hk => .head h0 hs (harr.1 k' (by simp [exitTo, hk])), fun hr' hk => let ⟨k₁, h1, h2⟩ := harr.2 hr' (by simp [exitTo, hk]); ⟨k₁, h1, .head h0 hs h2⟩⟩
  | goto l => exact hq.elim
  | ret => exact ⟨_, a₁, w₁, hq, .of_steps (.one h0 hs) harr⟩
  | panic ch => exact ⟨_, a₁, w₁, hq, .of_steps (.one h0 hs) harr⟩
  | outgrown => exact ⟨_, a₁, w₁, hq, .of_steps (.one h0 hs) harr⟩
theorem wp_scope' {F : Fence} {mm : Nat} {c : Code} {S : MS} {a : Act} {w : World} (h : c.wpIn F mm P (After S n b Q) a w) : (Code.scope c).wpIn F mm P (After S n b Q) a w := by
  refine wpIn_scope_straight (wpIn_mono h fun e a w hh => ?_)
  obtain ⟨S2, env, H', y, h1, h2, h3, h4, h5, h6⟩ := hh
  subst h5
  cases y <;> exact ⟨S2, env, H', _, h1, h2, h3, h4, rfl, h6⟩

/-- A code that is read as c, behind its scopes. -/
theorem compC_ind {F : Fence} {mm : Nat} {c : AC} {S : MS} {a : Act} {w : World} (h : ∀ code, compC P n code = some c → (∀ d, code ≠ .scope d) → code.wpIn F mm P (After S n b Q) a w) : ∀ code, compC P n code = some c → code.wpIn F mm P (After S n b Q) a w
  | .scope d, hc => wp_scope' (compC_ind h d (by simpa [compC] using hc))
  | .skip, hc => h _ hc (by simp)
  | .region .., hc => h _ hc (by simp)
  | .seq .., hc => h _ hc (by simp)
  | .cond .., hc => h _ hc (by simp)
  | .block .., hc => h _ hc (by simp)
  | .loop _, hc => h _ hc (by simp)
  | .rangeFunc .., hc => h _ hc (by simp)
  | .exit _, hc => h _ hc (by simp)
  | .label _, hc => h _ hc (by simp)
  | .goto _, hc => h _ hc (by simp)
  | .ret, hc => h _ hc (by simp)
  | .refuse _, hc => h _ hc (by simp)

theorem T_of {c : AC} (h : ∀ (rd : Option Nat) (mm : Nat) (_ : c.free = true ∨ rd = none) code, compC P n code = some c → (∀ d, code ≠ .scope d) → ∀ S a, b ≤ S.n → SRel S H → FRel S n env a → code.wpIn (fen rd) mm P (After S n b Q) a S.w) : T P n b c env H Q :=
  fun rd mm hrd code hc S a hb hS hF => compC_ind (fun code hc hs => h rd mm hrd code hc hs S a hb hS hF) code hc

theorem compReg_cases {ops : Array Oper} {draw : Bool} {l : List AOp} {c : AC} (h : compReg P ops draw l = some c) :
    (draw = false ∧ c = .reg l) ∨ (draw = true ∧ P.follows .mixedOrders = true ∧ Region.lexB .any ops = true ∧ c = .dreg l) ∨ (draw = true ∧ ∃ m, P.follows .mixedOrders = true ∧ Region.lexTailB .any ops m = true ∧ c = .dtl (l.take m) (l.drop m)) ∨ (draw = true ∧ P.follows .mixedOrders = true ∧ Region.lexB .any ops = true ∧ pairsB .any ops l = true ∧ c = .greg l) ∨ (draw = true ∧ P.follows .mixedOrders = true ∧ Region.lexB .any ops = true ∧ pairsX .any ops l = true ∧ c = .grx (flagsB .any ops l) l) := by
  unfold compReg at h
  split at h
  · rename_i hd
    split at h
    · rename_i hf
      split at h
      · split at h
        · rename_i hB; cases h; exact .inr (.inl ⟨hd, hf, hB, rfl⟩)
        · cases h
      · split at h
        · rename_i hB; cases h; exact .inr (.inr (.inl ⟨hd, _, hf, hB, rfl⟩))
        · split at h
          · rename_i hB
            cases h
            simp only [Bool.and_eq_true] at hB
            exact .inr (.inr (.inr (.inl ⟨hd, hf, hB.1, hB.2, rfl⟩)))
          · split at h
            · rename_i hB
              cases h
              simp only [Bool.and_eq_true] at hB
              exact .inr (.inr (.inr (.inr ⟨hd, hf, hB.1, hB.2, rfl⟩)))
            · cases h
    · cases h
  · rename_i hd; cases h; exact .inl ⟨by simpa using hd, rfl⟩
theorem compReg_reg {ops : Array Oper} {draw : Bool} {l l' : List AOp} (h : compReg P ops draw l = some (.reg l')) : draw = false ∧ l' = l := by
  rcases compReg_cases h with ⟨h1, h2⟩ | ⟨_, _, _, h2⟩ | ⟨_, _, _, _, h2⟩ | ⟨_, _, _, _, h2⟩ | ⟨_, _, _, _, h2⟩ <;> cases h2; exact ⟨h1, rfl⟩
theorem compReg_dreg {ops : Array Oper} {draw : Bool} {l l' : List AOp} (h : compReg P ops draw l = some (.dreg l')) : draw = true ∧ P.follows .mixedOrders = true ∧ Region.lexB .any ops = true ∧ l' = l := by
  rcases compReg_cases h with ⟨_, h2⟩ | ⟨h1, h3, h4, h2⟩ | ⟨_, _, _, _, h2⟩ | ⟨_, _, _, _, h2⟩ | ⟨_, _, _, _, h2⟩ <;> cases h2; exact ⟨h1, h3, h4, rfl⟩
theorem compReg_dtl {ops : Array Oper} {draw : Bool} {l p q : List AOp} (h : compReg P ops draw l = some (.dtl p q)) : draw = true ∧ ∃ m, P.follows .mixedOrders = true ∧ Region.lexTailB .any ops m = true ∧ p = l.take m ∧ q = l.drop m := by
  rcases compReg_cases h with ⟨_, h2⟩ | ⟨_, _, _, h2⟩ | ⟨h1, m, h3, h4, h2⟩ | ⟨_, _, _, _, h2⟩ | ⟨_, _, _, _, h2⟩ <;> cases h2; exact ⟨h1, m, h3, h4, rfl, rfl⟩
theorem compReg_greg {ops : Array Oper} {draw : Bool} {l l' : List AOp} (h : compReg P ops draw l = some (.greg l')) : draw = true ∧ P.follows .mixedOrders = true ∧ Region.lexB .any ops = true ∧ pairsB .any ops l = true ∧ l' = l := by
  rcases compReg_cases h with ⟨_, h2⟩ | ⟨_, _, _, h2⟩ | ⟨_, _, _, _, h2⟩ | ⟨h1, h3, h4, h5, h2⟩ | ⟨_, _, _, _, h2⟩ <;> cases h2; exact ⟨h1, h3, h4, h5, rfl⟩
theorem compReg_grx {ops : Array Oper} {draw : Bool} {l l' : List AOp} {fl : List Bool} (h : compReg P ops draw l = some (.grx fl l')) : draw = true ∧ P.follows .mixedOrders = true ∧ Region.lexB .any ops = true ∧ pairsX .any ops l = true ∧ l' = l ∧ fl = flagsB .any ops l := by
  rcases compReg_cases h with ⟨_, h2⟩ | ⟨_, _, _, h2⟩ | ⟨_, _, _, _, h2⟩ | ⟨_, _, _, _, h2⟩ | ⟨h1, h3, h4, h5, h2⟩ <;> cases h2; exact ⟨h1, h3, h4, h5, rfl, rfl⟩
def AC.isReg : AC → Bool
  | .reg _ | .dreg _ | .dtl _ _ | .greg _ | .grx _ _ => true
  | _ => false
theorem compReg_isReg {ops : Array Oper} {draw : Bool} {l : List AOp} {c : AC} (h : compReg P ops draw l = some c) : c.isReg = true := by
  rcases compReg_cases h with ⟨_, rfl⟩ | ⟨_, _, _, rfl⟩ | ⟨_, _, _, _, rfl⟩ | ⟨_, _, _, _, rfl⟩ | ⟨_, _, _, _, rfl⟩ <;> rfl
theorem compReg_ne {ops : Array Oper} {draw : Bool} {o : Option (List AOp)} {c : AC} (hc : c.isReg = false := by rfl) : ¬ (match o with | some l => compReg P ops draw l | none => none) = some c := by
  intro h
  split at h
  · rw [compReg_isReg h] at hc; cases hc
  · cases h

theorem T_skip (h : Q .normal env H) : T P n b .skip env H Q := T_of fun rd mm hrd code hc hs S a hb hS hF => by
  have hA : After S n b Q .normal a S.w := ⟨S, env, H, .normal, rfl, .refl hb, hS, hF, rfl, h⟩
  cases code <;> simp only [compC, reduceCtorEq, Option.some.injEq] at hc
  case skip => exact wpIn_skip hA
  case label => exact wpIn_label hA
  case region => exact absurd hc compReg_ne
  case seq => split at hc <;> cases hc
  case cond => split at hc <;> cases hc
  case block => obtain ⟨_, _, h⟩ := Option.map_eq_some_iff.1 hc; cases h
  case loop => obtain ⟨_, _, h⟩ := Option.map_eq_some_iff.1 hc; cases h
  case rangeFunc => split at hc <;> cases hc
  case scope d => exact absurd rfl (hs d)

theorem T_reg {ops : List AOp} (h : runK P ops env H fun env' H' => Q .normal env' H') : T P n b (.reg ops) env H Q := T_of fun rd mm hrd code hc hs S a hb hS hF => by
  cases code <;> simp only [compC, reduceCtorEq, Option.some.injEq] at hc
  case region id l draw =>
    split at hc
    · rename_i r hr
      obtain ⟨hd', rfl⟩ := compReg_reg hc
      · subst hd'
        refine wpIn_region ?_
        have := run_sound l.toList ops 0 (by simp) hr hS hF h (Q := After S n b Q) (fun S' H' env' a' e hS' hF' hK => ⟨S', env', H', .normal, rfl, e.down hb, hS', hF', rfl, hK⟩) rd mm
        rw [List.range_eq_range']
        simpa using this
    · cases hc
  case seq => split at hc <;> cases hc
  case cond => split at hc <;> cases hc
  case block => obtain ⟨_, _, h⟩ := Option.map_eq_some_iff.1 hc; cases h
  case loop => obtain ⟨_, _, h⟩ := Option.map_eq_some_iff.1 hc; cases h
  case rangeFunc => split at hc <;> cases hc
  case scope d => exact absurd rfl (hs d)

theorem T_dreg {ops : List AOp} (h : runQ P H ops env fun env' => Q .normal env' H) : T P n b (.dreg ops) env H Q := T_of fun rd mm hrd code hc hs S a hb hS hF => by
  cases code <;> simp only [compC, reduceCtorEq, Option.some.injEq] at hc
  case region id l draw =>
    split at hc
    · rename_i r hr
      obtain ⟨hd', h1, h2, rfl⟩ := compReg_dreg hc
      subst hd'
      exact draw_sound h1 h2 hr hS hF h fun S' env' a' e hS' hF' hK => ⟨S', env', H, .normal, rfl, e.down hb, hS', hF', rfl, hK⟩
    · cases hc
  case seq => split at hc <;> cases hc
  case cond => split at hc <;> cases hc
  case block => obtain ⟨_, _, h⟩ := Option.map_eq_some_iff.1 hc; cases h
  case loop => obtain ⟨_, _, h⟩ := Option.map_eq_some_iff.1 hc; cases h
  case rangeFunc => split at hc <;> cases hc
  case scope d => exact absurd rfl (hs d)

theorem T_dtl {pre post : List AOp} (h : runQ P H pre env fun env' => runK P post env' H fun env' H' => Q .normal env' H') : T P n b (.dtl pre post) env H Q := T_of fun rd mm hrd code hc hs S a hb hS hF => by
  cases code <;> simp only [compC, reduceCtorEq, Option.some.injEq] at hc
  case region id l draw =>
    split at hc
    · rename_i r hr
      obtain ⟨hd', m, h1, h2, rfl, rfl⟩ := compReg_dtl hc
      subst hd'
      exact draw_tail h1 h2 hr hS hF h fun S' H' env' a' e hS' hF' hK => ⟨S', env', H', .normal, rfl, e.down hb, hS', hF', rfl, hK⟩
    · cases hc
  case seq => split at hc <;> cases hc
  case cond => split at hc <;> cases hc
  case block => obtain ⟨_, _, h⟩ := Option.map_eq_some_iff.1 hc; cases h
  case loop => obtain ⟨_, _, h⟩ := Option.map_eq_some_iff.1 hc; cases h
  case rangeFunc => split at hc <;> cases hc
  case scope d => exact absurd rfl (hs d)

theorem T_greg {L : List AOp} {l : List Grp} (h : runG P L env l fun env' l' => Q .normal env' (hl l')) : T P n b (.greg L) env (hl l) Q := T_of fun rd mm hrd code hc hs S a hb hS hF => by
  cases code <;> simp only [compC, reduceCtorEq, Option.some.injEq] at hc
  case region id ops draw =>
    split at hc
    · rename_i r hr
      obtain ⟨hd', h1, h2, h3, rfl⟩ := compReg_greg hc
      subst hd'
      exact draw_any h1 h2 h3 hr hS hF h fun S' env' l' a' e hS' hF' hK => ⟨S', env', hl l', .normal, rfl, e.down hb, hS', hF', rfl, hK⟩
    · cases hc
  case seq => split at hc <;> cases hc
  case cond => split at hc <;> cases hc
  case block => obtain ⟨_, _, h⟩ := Option.map_eq_some_iff.1 hc; cases h
  case loop => obtain ⟨_, _, h⟩ := Option.map_eq_some_iff.1 hc; cases h
  case rangeFunc => split at hc <;> cases hc
  case scope d => exact absurd rfl (hs d)

theorem T_grx {fl : List Bool} {L : List AOp} {l : List Grp} (ks : List Nat) (h : runX P ks fl L env l fun env' l' => Q .normal env' (hl l')) : T P n b (.grx fl L) env (hl l) Q := T_of fun rd mm hrd code hc hs S a hb hS hF => by
  cases code <;> simp only [compC, reduceCtorEq, Option.some.injEq] at hc
  case region id ops draw =>
    split at hc
    · rename_i r hr
      obtain ⟨hd', h1, h2, h3, rfl, rfl⟩ := compReg_grx hc
      subst hd'
      exact draw_x h1 h2 h3 hr hS hF h fun S' env' l' a' e hS' hF' hK => ⟨S', env', hl l', .normal, rfl, e.down hb, hS', hF', rfl, hK⟩
    · cases hc
  case seq => split at hc <;> cases hc
  case cond => split at hc <;> cases hc
  case block => obtain ⟨_, _, h⟩ := Option.map_eq_some_iff.1 hc; cases h
  case loop => obtain ⟨_, _, h⟩ := Option.map_eq_some_iff.1 hc; cases h
  case rangeFunc => split at hc <;> cases hc
  case scope d => exact absurd rfl (hs d)

/-- Where c goes on, the rest does. -/
def Ex.then (K : Env → AHeap → Prop) (Q : Ex → Env → AHeap → Prop) : Ex → Env → AHeap → Prop
  | .normal, env, H => K env H
  | x, env, H => Q x env H

theorem T_seq {x y : AC} (h : T P n b x env H (Ex.then (fun env' H' => T P n b y env' H' Q) Q)) : T P n b (.seq x y) env H Q := T_of fun rd mm hrd code hc hs S a hb hS hF => by
  cases code <;> simp only [compC, reduceCtorEq, Option.some.injEq] at hc
  case seq c d =>
    split at hc
    · rename_i x' y' hx hy
      cases hc
      refine wpIn_seq (wpIn_mono (h rd mm (free2 hrd).1 c hx S a hb hS hF) fun e a' w' hh => ?_)
      obtain ⟨S2, env2, H2, z, rfl, e2, hS2, hF2, rfl, hq⟩ := hh
      cases z with
      | normal => exact wpIn_mono (hq rd mm (free2 hrd).2 d hy S2 a' e2.n hS2 hF2) fun _ _ _ hh => hh.trans e2
      | exit id => exact ⟨S2, env2, H2, .exit id, rfl, e2, hS2, hF2, rfl, hq⟩
      | ret => exact ⟨S2, env2, H2, .ret, rfl, e2, hS2, hF2, rfl, hq⟩
    · cases hc
  case region => exact absurd hc compReg_ne
  case cond => split at hc <;> cases hc
  case block => obtain ⟨_, _, h⟩ := Option.map_eq_some_iff.1 hc; cases h
  case loop => obtain ⟨_, _, h⟩ := Option.map_eq_some_iff.1 hc; cases h
  case rangeFunc => split at hc <;> cases hc
  case scope d => exact absurd rfl (hs d)

theorem T_cond {c : AArg} {x y : AC} {q : Bool} (hc : c.eval env = .bool q) (ht : q = true → T P n b x env H Q) (hf : q = false → T P n b y env H Q) : T P n b (.cond c x y) env H Q := T_of fun rd mm hrd code hcc hs S a hb hS hF => by
  cases code <;> simp only [compC, reduceCtorEq, Option.some.injEq] at hcc
  case cond z p q' =>
    split at hcc
    · rename_i z' p2 q2 hz hp hq
      cases hcc
      have hv := arg_rel hF hz
      rw [hc] at hv
      exact wpIn_cond_split (t := q) hv (fun hbb => ht hbb rd mm (free2 hrd).1 p hp S a hb hS hF) (fun hbb => hf hbb rd mm (free2 hrd).2 q' hq S a hb hS hF)
    · cases hcc
  case region => exact absurd hcc compReg_ne
  case seq => split at hcc <;> cases hcc
  case block => obtain ⟨_, _, h⟩ := Option.map_eq_some_iff.1 hcc; cases h
  case loop => obtain ⟨_, _, h⟩ := Option.map_eq_some_iff.1 hcc; cases h
  case rangeFunc => split at hcc <;> cases hcc
  case scope d => exact absurd rfl (hs d)

/-- A block is left by its own exit. -/
def Ex.inBlock (id : Nat) (Q : Ex → Env → AHeap → Prop) : Ex → Env → AHeap → Prop
  | .exit k, env, H => if k = id then Q .normal env H else Q (.exit k) env H
  | x, env, H => Q x env H

theorem T_block {id : Nat} {c : AC} (h : T P n b c env H (Ex.inBlock id Q)) : T P n b (.block id c) env H Q := T_of fun rd mm hrd code hc hs S a hb hS hF => by
  cases code <;> simp only [compC, reduceCtorEq, Option.some.injEq] at hc
  case block k d =>
    obtain ⟨x, hx, hh⟩ := Option.map_eq_some_iff.1 hc
    cases hh
    refine wpIn_block (wpIn_mono (h rd mm hrd d hx S a hb hS hF) fun e a' w' hh => ?_)
    obtain ⟨S2, env2, H2, z, h1, e2, hS2, hF2, rfl, hq⟩ := hh
    cases z with
    | normal => exact ⟨S2, env2, H2, .normal, h1, e2, hS2, hF2, rfl, hq⟩
    | exit j =>
      simp only [Ex.up, Exit.inBlock]
      simp only [Ex.inBlock] at hq
      split
      · rename_i hj; rw [if_pos hj] at hq; exact ⟨S2, env2, H2, .normal, h1, e2, hS2, hF2, rfl, hq⟩
      · rename_i hj; rw [if_neg hj] at hq; exact ⟨S2, env2, H2, .exit j, h1, e2, hS2, hF2, rfl, hq⟩
    | ret => exact ⟨S2, env2, H2, .ret, h1, e2, hS2, hF2, rfl, hq⟩
  case region => exact absurd hc compReg_ne
  case seq => split at hc <;> cases hc
  case cond => split at hc <;> cases hc
  case loop => obtain ⟨_, _, h⟩ := Option.map_eq_some_iff.1 hc; cases h
  case rangeFunc => split at hc <;> cases hc
  case scope d => exact absurd rfl (hs d)

theorem T_exit {id : Nat} (h : Q (.exit id) env H) : T P n b (.exit id) env H Q := T_of fun rd mm hrd code hc hs S a hb hS hF => by
  cases code <;> simp only [compC, reduceCtorEq, Option.some.injEq] at hc
  case exit k => cases hc; exact wpIn_exit ⟨S, env, H, .exit id, rfl, .refl hb, hS, hF, rfl, h⟩
  case region => exact absurd hc compReg_ne
  case seq => split at hc <;> cases hc
  case cond => split at hc <;> cases hc
  case block => obtain ⟨_, _, h⟩ := Option.map_eq_some_iff.1 hc; cases h
  case loop => obtain ⟨_, _, h⟩ := Option.map_eq_some_iff.1 hc; cases h
  case rangeFunc => split at hc <;> cases hc
  case scope d => exact absurd rfl (hs d)

theorem T_ret (h : Q .ret env H) : T P n b .ret env H Q := T_of fun rd mm hrd code hc hs S a hb hS hF => by
  cases code <;> simp only [compC, reduceCtorEq, Option.some.injEq] at hc
  case ret => exact wpIn_ret ⟨S, env, H, .ret, rfl, .refl hb, hS, hF, rfl, h⟩
  case region => exact absurd hc compReg_ne
  case seq => split at hc <;> cases hc
  case cond => split at hc <;> cases hc
  case block => obtain ⟨_, _, h⟩ := Option.map_eq_some_iff.1 hc; cases h
  case loop => obtain ⟨_, _, h⟩ := Option.map_eq_some_iff.1 hc; cases h
  case rangeFunc => split at hc <;> cases hc
  case scope d => exact absurd rfl (hs d)

/-- A LOOP: a state s, of which the slots and the groups hang; each round hands on a state of a smaller measure. -/
theorem T_loop {σ : Type} (Inv : σ → Env → AHeap → Prop) (μ : σ → Nat) {c : AC} (s0 : σ) (h0 : Inv s0 env H)
    (round : ∀ s env H, Inv s env H → T P n b c env H (Ex.then (fun env' H' => ∃ s', Inv s' env' H' ∧ μ s' < μ s) Q)) : T P n b (.loop c) env H Q := T_of fun rd mm hrd code hc hs S a hb hS hF => by
  cases code <;> simp only [compC, reduceCtorEq, Option.some.injEq] at hc
  case loop d =>
    obtain ⟨x, hx, hh⟩ := Option.map_eq_some_iff.1 hc
    cases hh
    refine wpIn_loop_ghost (fun k a w => ∃ S' s env H, S'.w = w ∧ BEvo b S S' ∧ SRel S' H ∧ FRel S' n env a ∧ Inv s env H ∧ μ s = k) (μ s0) ⟨S, s0, env, H, rfl, .refl hb, hS, hF, h0, rfl⟩ ?_
    rintro k a w ⟨S1, s, env1, H1, rfl, e1, hS1, hF1, hI, rfl⟩
    refine wpIn_mono (round s env1 H1 hI rd mm hrd d hx S1 a e1.n hS1 hF1) fun e a' w' hh => ?_
    obtain ⟨S2, env2, H2, z, rfl, e2, hS2, hF2, rfl, hq⟩ := hh
    cases z with
    | normal =>
      obtain ⟨s', h1, h2⟩ := hq
      exact ⟨μ s', h2, S2, s', env2, H2, rfl, e1.trans e2, hS2, hF2, h1, rfl⟩
    | exit id => exact ⟨S2, env2, H2, .exit id, rfl, e1.trans e2, hS2, hF2, rfl, hq⟩
    | ret => exact ⟨S2, env2, H2, .ret, rfl, e1.trans e2, hS2, hF2, rfl, hq⟩
  case region => exact absurd hc compReg_ne
  case seq => split at hc <;> cases hc
  case cond => split at hc <;> cases hc
  case block => obtain ⟨_, _, h⟩ := Option.map_eq_some_iff.1 hc; cases h
  case rangeFunc => split at hc <;> cases hc
  case scope d => exact absurd rfl (hs d)

/-! ### Functions -/
def resK (P : Program) : List ARes → Env → AHeap → (List AV → Prop) → Prop
  | [], _, _, K => K []
  | .slot t :: l, env, H, K => resK P l env H fun xs => K (env t :: xs)
  | .cell t a s :: l, env, H, K => stepA P (.load a s) H [env t] fun x _ => resK P l env H fun xs => K (x :: xs)

def resV : List AV → AV
  | [x] => x
  | xs => .tup xs

/-- What holds where a function returns. -/
def Ret (P : Program) (res : List ARes) (K : AV → AHeap → Prop) (x : Ex) (env : Env) (H : AHeap) : Prop :=
  (match x with | .exit _ => False | _ => True) ∧ resK P res env H fun xs => K (resV xs) H

def entry (xs : List AV) : Env := fun i => xs.getD i .any

theorem compRes_slot {r : ResultVar} {t : Nat} (h : compRes P n r = some (.slot t)) : r = .tmp t ∧ t < n := by
  cases r <;> simp only [compRes] at h
  · split at h
    · rename_i hlt; cases h; exact ⟨rfl, hlt⟩
    · cases h
  · split at h
    · obtain ⟨_, _, h⟩ := Option.map_eq_some_iff.1 h; cases h
    · cases h

theorem compRes_cell {r : ResultVar} {t : Nat} {a : Bool} {s : Nat} (h : compRes P n r = some (.cell t a s)) : ∃ ty, r = .cell t ty ∧ t < n ∧ aggSize P ty = some (a, s) := by
  cases r <;> simp only [compRes] at h
  · split at h <;> cases h
  · split at h
    · rename_i hlt
      obtain ⟨⟨a', s'⟩, h1, h2⟩ := Option.map_eq_some_iff.1 h
      cases h2
      exact ⟨_, rfl, hlt, h1⟩
    · cases h

def resSem (tmps : Array Value) : ResultVar → Sem Value
  | .tmp t => pure (tmps.getD t undef)
  | .cell ad t => do loadVar t (← asAddr (tmps.getD ad undef))

theorem results_ok {S : MS} {a : Act} (hS : SRel S H) (hF : FRel S n env a) : ∀ {rs : List ResultVar} {l : List ARes} {K : List AV → Prop}, rs.mapM (compRes P n) = some l → resK P l env H K →
    ∃ vs xs, (rs.mapM (resSem a.tmps)).run P S.w = .ok vs S.w ∧ VsRel S xs vs ∧ K xs
  | [], l, K, hm, h => by
    simp at hm
    subst hm
    exact ⟨[], [], rfl, rfl, h⟩
  | r :: rs, l, K, hm, h => by
    rw [List.mapM_cons] at hm
    simp only [Option.bind_eq_bind, Option.bind_eq_some_iff, Option.pure_def, Option.some.injEq] at hm
    obtain ⟨q, hq, l', hl', rfl⟩ := hm
    cases q with
    | slot t =>
      obtain ⟨rfl, ht⟩ := compRes_slot hq
      obtain ⟨vs, xs, h1, h2, h3⟩ := results_ok hS hF hl' h
      refine ⟨_ :: vs, env t :: xs, ?_, ⟨_, vs, rfl, hF.val t ht, h2⟩, h3⟩
      have h0 : (resSem a.tmps (.tmp t)).run P S.w = .ok (a.tmps.getD t undef) S.w := rfl
      rw [List.mapM_cons]
      simp only [Sem.run_bind, Sem.run_pure, Result.andThen_ok, h0, h1]
    | cell t ag s =>
      obtain ⟨ty, rfl, ht, hs⟩ := compRes_cell hq
      have hv := hF.val t ht
      obtain ⟨ad, u, z, hvv, hrun, hz, hK⟩ := load_raw hS ty hs hv h
      obtain ⟨vs, xs, h1, h2, h3⟩ := results_ok hS hF hl' hK
      refine ⟨u :: vs, z :: xs, ?_, ⟨u, vs, rfl, hz, h2⟩, h3⟩
      have h0 : (resSem a.tmps (.cell t ty)).run P S.w = .ok u S.w := by simp only [resSem, hvv, asAddr, Sem.run_bind, Sem.run_pure, Result.andThen_ok, hrun]
      rw [List.mapM_cons]
      simp only [Sem.run_bind, Sem.run_pure, Result.andThen_ok, h0, h1]

theorem resV_rel {S : MS} {xs : List AV} {vs : List Value} (h : VsRel S xs vs) : VRel S (resV xs) (if h : vs.toArray.size = 1 then vs.toArray[0] else .tuple vs.toArray) := by
  match xs, vs, h with
  | [], [], _ => exact ⟨[], rfl, rfl⟩
  | [x], [v], h => exact h.inv1
  | x :: y :: xs, u :: v :: vs, h =>
    have hne : ¬ (u :: v :: vs).toArray.size = 1 := by simp
    rw [dif_neg hne]
    exact ⟨_, rfl, h⟩
  | [], _ :: _, h => have := h.length; simp at this
  | [_], [], h => have := h.length; simp at this
  | [_], _ :: _ :: _, h => have := h.length; simp at this
  | _ :: _ :: _, [], h => have := h.length; simp at this
  | _ :: _ :: _, [_], h => have := h.length; simp at this

theorem compFn_spec {f np : Nat} {fn : AFn} (h : compFn P f np = some fn) : ∃ F c, P.funcs[f]? = some F ∧ F.body = some c ∧ F.ntmps = fn.n ∧ compC P fn.n c = some fn.body ∧ F.results.toList.mapM (compRes P fn.n) = some fn.res ∧ np ≤ fn.n ∧ F.name ≠ "runtime.NumGoroutine" := by
  unfold compFn at h
  split at h
  · rename_i F hF
    split at h
    · rename_i c hc
      split at h
      · rename_i b r hb hr
        split at h
        · rename_i hcond
          cases h
          simp only [Bool.and_eq_true, decide_eq_true_eq, bne_iff_ne] at hcond
          exact ⟨F, c, hF, hc, rfl, hb, hr, hcond.1, hcond.2⟩
        · cases h
      · cases h
    · cases h
  · cases h

theorem enters_of {f np : Nat} {fn : AFn} (h : compFn P f np = some fn) : Enters P f := by
  obtain ⟨F, c, hF, hc, _, _, _, _, hn⟩ := compFn_spec h
  intro cargs w
  have h1 : (F.name == "runtime.NumGoroutine") = false := by simpa using hn
  simp [callFunc, Sem.run_bind, run_program, hF, hn, hc]

/-! ### The end of a function: the marks are taken away -/
theorem Evi.of {S S' : MS} (hw : ∀ b, S.im b → S'.w.heap[b]? = S.w.heap[b]?) (hi : S'.im = S.im) (hn : S'.n = S.n) (hc : S'.cur = S.cur) (hp : S'.place = S.place) (hcap : S'.cap = S.cap) (hwid : S'.wid = S.wid) : Evi S S' :=
  ⟨hw, fun b h => by rw [hi]; exact h, by rw [hn]; exact Nat.le_refl _, fun g _ => by rw [hc]; exact Nat.le_refl _, fun g _ _ => by rw [hp, hcap, hwid]; exact ⟨rfl, rfl, rfl⟩⟩
/-- The same groups, elsewhere told. -/
theorem SRel.turn {S S' : MS} {H : AHeap} (h : SRel S H) (hw : ∀ b, S.im b → S'.w.heap[b]? = S.w.heap[b]?) (hi : S'.im = S.im) (hn : S'.n = S.n) (hc : S'.cur = S.cur) (hp : S'.place = S.place) (hcap : S'.cap = S.cap) (hwid : S'.wid = S.wid)
    (hk : ∀ b, S'.keep b → S.keep b) (hg : ∀ b, ¬ (S.im b ∨ S.keep b) → b < S.w.heap.size → S'.w.heap[b]? = S.w.heap[b]?) (hsz : S.w.heap.size ≤ S'.w.heap.size) : SRel S' H := by
  have ev := Evi.of hw hi hn hc hp hcap hwid
  refine ⟨hn.trans h.n, fun g hgn => ?_, fun g g' h1 h2 h3 h4 h5 => ?_, fun b hb => ?_⟩
  · have hG := h.grp g hgn
    have hni : ¬ (S.im (S.place g) ∨ S.keep (S.place g)) → ¬ (S'.im (S'.place g) ∨ S'.keep (S'.place g)) := fun hn hh => by
      rw [hi, hp] at hh
      exact hn (hh.imp id (hk _))
    refine ⟨by rw [hc]; exact hG.ver, by rw [hwid]; exact hG.wid, fun hw0 hc0 => ?_, fun hw0 => by rw [hcap]; exact hG.len hw0, fun hw0 he => by rw [hcap]; exact hG.full hw0 he, fun hw0 he => ?_⟩
    · rw [hcap] at hc0 ⊢
      obtain ⟨⟨cells, T, vs, a1, a2, a3, a4⟩, a5⟩ := hG.live hw0 hc0
      exact ⟨⟨cells, T, vs, by rw [hp, hg _ a5 (hG.lt hw0 hc0)]; exact a1, a2, VsRel.moni ev _ a3, a4⟩, hni a5⟩
    · obtain ⟨⟨es, clock, a1, a2⟩, a5⟩ := hG.mlive hw0 he
      exact ⟨⟨es, clock, by rw [hp, hg _ a5 (hG.mlt hw0 he)]; exact a1, VsRel.moni ev _ a2⟩, hni a5⟩
  · rw [hp]
    rw [hcap] at h4 h5
    exact h.apart g g' h1 h2 h3 h4 h5
  · rw [hi] at hb
    exact Nat.lt_of_lt_of_le (h.im b (hb.imp id (hk b))) hsz

def takeW (w : World) (Ds : List Nat) : World := Ds.foldl (fun w D => w.putObj D (.deferred none)) w
theorem takeW_os : ∀ (Ds : List Nat) (w : World), (takeW w Ds).os = w.os ∧ (takeW w Ds).tape = w.tape ∧ (takeW w Ds).output = w.output ∧ (takeW w Ds).heap.size = w.heap.size ∧ ∀ b, b ∉ Ds → (takeW w Ds).heap[b]? = w.heap[b]?
  | [], w => ⟨rfl, rfl, rfl, rfl, fun _ _ => rfl⟩
  | D :: Ds, w => by
    obtain ⟨h1, h2, h3, h4, h5⟩ := takeW_os Ds (w.putObj D (.deferred none))
    refine ⟨h1, h2, h3, by rw [show takeW w (D :: Ds) = takeW (w.putObj D (.deferred none)) Ds from rfl, h4]; simp [World.putObj], fun b hb => ?_⟩
    simp only [List.mem_cons, not_or] at hb
    rw [show takeW w (D :: Ds) = takeW (w.putObj D (.deferred none)) Ds from rfl, h5 b hb.2]
    exact World.putObj_heap_other hb.1
theorem leaves_marks {F : Fence} {mm : Nat} {fn : Func} {tmps : Array Value} {R : Ending → World → Prop} : ∀ (Ds : List Nat) (w : World), Ds.Nodup → (∀ D ∈ Ds, w.heap[D]? = some (.deferred (some []))) →
    (∃ v, (results fn tmps).run P (takeW w Ds) = .ok v (takeW w Ds) ∧ R (.returned v) (takeW w Ds)) → LeavesInM F mm P fn tmps R (Ds.map mark) .returning w
  | [], w, _, _, h => h
  | D :: Ds, w, hn, hd, h => by
    obtain ⟨h1, h2⟩ := List.nodup_cons.1 hn
    refine ⟨by simp, .inl ⟨D, w.putObj D (.deferred none), rfl, run_takeDeferred (hd D (by simp)), ?_⟩⟩
    exact leaves_marks Ds _ h2 (fun D' hD' => by rw [World.putObj_heap_other (by rintro rfl; exact h1 hD')]; exact hd D' (by simp [hD'])) h

/-- WHAT A FUNCTION DOES, FROM WHAT ITS CODE DOES. -/
theorem acalls {f : Nat} {xs : List AV} {fn : AFn} (hf : compFn P f xs.length = some fn) {K : AV → AHeap → Prop} (h : T P fn.n H.n fn.body (entry xs) H (Ret P fn.res K)) : ACalls P f xs H K := by
  refine ⟨enters_of hf, fun S0 cargs hS0 hx0 => ?_⟩
  obtain ⟨F, c, hF, hb, hn, hc, hr, hnp, _⟩ := compFn_spec hf
  obtain ⟨S, hSd⟩ : ∃ S : MS, S = { S0 with base := S0.w.heap.size } := ⟨_, rfl⟩
  have hS : SRel S H := by subst hSd; exact hS0.turn (fun _ _ => rfl) rfl rfl rfl rfl rfl rfl (fun _ h => h) (fun _ _ _ => rfl) (Nat.le_refl _)
  have ev0 : Evi S0 S := by subst hSd; exact Evi.of (fun _ _ => rfl) rfl rfl rfl rfl rfl rfl
  have hx : VsRel S xs cargs := VsRel.moni ev0 _ hx0
  have hw0 : S.w = S0.w := by rw [hSd]
  have hbase : S.base = S0.w.heap.size := by rw [hSd]
  have hlen := hx.length
  refine callsIn_wide.1 (callsIn_of_wp_marks (F := Fence.wide) (n := 0) hF hb trivial ?_)
  have hfr : FRel S fn.n (entry xs) { tmps := cargs.toArray ++ Array.replicate (F.ntmps - cargs.toArray.size) undef, defers := [] } := by
    refine ⟨by simp; omega, Marks.nil (by rw [hbase, hw0]; exact Nat.le_refl _), fun i hi => ?_⟩
    by_cases hlt : i < xs.length
    · obtain ⟨v, hv, hr⟩ := hx.get (List.getElem?_eq_getElem hlt)
      have e1 : entry xs i = xs[i] := by simp [entry, List.getD, List.getElem?_eq_getElem hlt]
      have e2 : (cargs.toArray ++ Array.replicate (F.ntmps - cargs.toArray.size) undef).getD i undef = v := by
        rw [Array.getD_eq_getD_getElem?, Array.getElem?_append_left (by simp; omega)]
        simp [hv]
      rw [e1, e2]
      exact hr
    · have e1 : entry xs i = .any := by simp [entry, List.getD, List.getElem?_eq_none (Nat.le_of_not_lt hlt)]
      rw [e1]
      trivial
  rw [← hw0]
  refine wpIn_mono (h none 0 (.inr rfl) c hc S _ (by rw [hS.n]; exact Nat.le_refl _) hS hfr) fun e a w' hh => ?_
  obtain ⟨S2, env2, H2, z, rfl, e2, hS2, hF2, rfl, hq, hres⟩ := hh
  have fin : LeavesInM Fence.wide 0 P F a.tmps (fun e w' => ∃ v S' x H', e = .returned v ∧ S'.w = w' ∧ Evo S0 S' ∧ SRel S' H' ∧ VRel S' x v ∧ K x H') a.defers .returning S2.w := by
    obtain ⟨_, Ds, hds, hnd, hD⟩ := hF2.defers
    rw [hds]
    obtain ⟨t1, t2, t3, t4, t5⟩ := takeW_os Ds S2.w
    refine leaves_marks Ds S2.w hnd (fun D hd => (hD D hd).2.2.2) ?_
    have hki : ∀ b, S2.im b → b ∉ Ds := fun b hb hd => (hD b hd).2.2.1 hb
    have hold : ∀ b, b < S0.w.heap.size → b ∉ Ds := fun b hb hd => by
      have := (hD b hd).1
      rw [e2.base, hbase] at this
      omega
    obtain ⟨S', hS'd⟩ : ∃ S' : MS, S' = { S2 with w := takeW S2.w Ds, keep := S0.keep, base := S0.base } := ⟨_, rfl⟩
    have hkk : ∀ b, S0.keep b → S2.keep b := fun b hb => e2.keep b (by rw [hSd]; exact hb)
    have ev : Evi S2 S' := by subst hS'd; exact Evi.of (fun b hb => t5 b (hki b hb)) rfl rfl rfl rfl rfl rfl
    have hS' : SRel S' H2 := by
      subst hS'd
      exact hS2.turn (fun b hb => t5 b (hki b hb)) rfl rfl rfl rfl rfl rfl hkk (fun b hb _ => t5 b fun hd => hb (.inr (hD b hd).2.1)) (Nat.le_of_eq t4.symm)
    obtain ⟨S9, hS9d⟩ : ∃ S9 : MS, S9 = { S' with base := 0 } := ⟨_, rfl⟩
    have ev9 : Evi S' S9 := by subst hS9d; exact Evi.of (fun _ _ => rfl) rfl rfl rfl rfl rfl rfl
    have ev9' : Evi S9 S' := by subst hS9d; exact Evi.of (fun _ _ => rfl) rfl rfl rfl rfl rfl rfl
    have hS9 : SRel S9 H2 := by subst hS9d; exact hS'.turn (fun _ _ => rfl) rfl rfl rfl rfl rfl rfl (fun _ h => h) (fun _ _ _ => rfl) (Nat.le_refl _)
    have hw9 : S9.w = S'.w := by rw [hS9d]
    have hF' : FRel S9 fn.n env2 { tmps := a.tmps, defers := [] } := ⟨hF2.size, Marks.nil (by rw [hS9d]; exact Nat.zero_le _), fun i hi => VRel.moni ev9 _ (VRel.moni ev _ (hF2.val i hi))⟩
    have hevo : Evo S0 S' := by
      have hk0 : ∀ b, S0.im b ∨ S0.keep b → S2.w.heap[b]? = S0.w.heap[b]? := fun b hb => by
        have := e2.kept b (by rw [hSd]; exact hb)
        rw [hw0] at this
        exact this
      have hu := e2.size
      have hcur := fun g (hg : g < H.n) => e2.cur g hg
      have hsame := fun g (hg : g < H.n) => e2.same g hg
      have q1 := e2.os
      have q2 := e2.tape
      have q3 := e2.output
      have q4 := e2.n
      have q5 := e2.im
      have q6 := e2.fresh
      subst hS'd hSd
      refine ⟨rfl, t1.trans q1, t2.trans q2, t3.trans q3, by show _ ≤ (takeW S2.w Ds).heap.size; rw [t4]; exact hu, fun b hb => ?_, fun b hb => q5 b hb, fun b hb => hb, fun b hb => q6 b hb, by show S0.n ≤ S2.n; rw [hS0.n]; exact q4, fun g hg => hcur g (by rw [← hS0.n]; exact hg), fun g hg hh => hsame g (by rw [← hS0.n]; exact hg) hh⟩
      show (takeW S2.w Ds).heap[b]? = _
      rw [t5 b (hold b (hS0.im b hb))]
      exact hk0 b hb
    obtain ⟨vs, ys, h1, h2, h3⟩ := results_ok hS9 hF' hr hres
    rw [hw9] at h1
    replace h2 := VsRel.moni ev9' _ h2
    have hw' : S'.w = takeW S2.w Ds := by rw [hS'd]
    rw [← hw']
    refine ⟨_, ?_, _, S', _, H2, rfl, rfl, hevo, hS', resV_rel h2, h3⟩
    have e : results F a.tmps = (do let vs ← F.results.mapM (resSem a.tmps); pure (if h : vs.size = 1 then vs[0] else .tuple vs)) := by
      unfold results
      congr
    rw [e, Array.mapM_eq_mapM_toList]
    simp only [Sem.run_bind, Sem.run_map, h1, Result.andThen_ok, Sem.run_pure]
  cases z with
  | normal => exact fin
  | exit id => exact hq.elim
  | ret => exact fin

end
end Go.Proofs.Ytdmjhlofphhldaa.Abs
