/-
  The walk as rewriting: what a piece of code asks ('W'), unfolded from the front, an operation at a time; it stops at calls and at loops.
-/
import Derived.Test.YtdmjhlofphhldaaAbs18
set_option linter.unusedSimpArgs false
set_option linter.unusedVariables false
namespace Go.Proofs.Ytdmjhlofphhldaa.Abs

/-! What the rewriting shall not go into stands in places that it leaves alone (those of instances). -/
class HK where
  f : AV → AHeap → Prop
class HQ where
  f : AV → Prop
class HP where
  p : Prop
class HY where
  y : AV

/-- A call, among others. -/
def CallK (P : Program) (f : Nat) (xs : List AV) (H : AHeap) [K : HK] : Prop := ACalls P f xs H K.f
/-- A call that changes nothing. -/
def CallQ (P : Program) (f : Nat) (xs : List AV) (H : AHeap) [K : HQ] : Prop := ∃ y, ACalls P f xs H (fun z H' => z = y ∧ H' = H) ∧ K.f y
/-- A loop. -/
def LoopK [L : HP] : Prop := L.p
/-- What is known of an answer. -/
def leW (x : AV) [y : HY] : Prop := AV.le x y.y

/-- An operation. -/
def opK (P : Program) : AK → AHeap → List AV → [HK] → Prop
  | .call, H, .fn f caps :: xs, K => CallK P f (xs ++ caps) H
  | k, H, xs, K => stepA P k H xs K.f
/-- An operation among those whose order is drawn. -/
def opQ (P : Program) : AK → AHeap → List AV → [HQ] → Prop
  | .call, H, .fn f caps :: xs, K => CallQ P f (xs ++ caps) H
  | .bslice w len z idx, H, xs, K => FitAll w len idx xs ∧ 0 < w ∧ pureL (setAll idx xs (List.replicate len z)) = true ∧ K.f (.full w (setAll idx xs (List.replicate len z)))
  | k, H, xs, K => k.still = true ∧ stepA P k H xs fun x _ => K.f x

/-- What a slot's guard lets through. -/
def guardW (x : AV) (w : Bool) [p : HP] [q : HP] [r : HP] : Prop := guardV x w p.p q.p r.p

def wk (P : Program) : List AOp → Env → AHeap → (Env → AHeap → Prop) → Prop
  | [], env, H, K => K env H
  | ⟨dst, args, none, k⟩ :: l, env, H, K => @opK P k H (args.map (·.eval env)) ⟨fun x H' => wk P l (env.put dst x) H' K⟩
  | ⟨dst, args, some (d, want), k⟩ :: l, env, H, K => @guardW (env d) want
      ⟨@opK P k H (args.map (·.eval (env.put (some d) (.bool want)))) ⟨fun x H' => wk P l ((env.put (some d) (.bool want)).put dst x) H' K⟩⟩
      ⟨wk P l ((env.put (some d) (.bool (!want))).put dst (.tup [])) H K⟩ ⟨wk P l (env.put dst (.tup [])) H K⟩

def qk (P : Program) (H : AHeap) : List AOp → Env → (Env → Prop) → Prop
  | [], env, K => K env
  | ⟨dst, args, none, k⟩ :: l, env, K => @opQ P k H (args.map (·.eval env)) ⟨fun x => qk P H l (env.put dst x) K⟩
  | ⟨dst, args, some (d, want), k⟩ :: l, env, K => @guardW (env d) want
      ⟨@opQ P k H (args.map (·.eval (env.put (some d) (.bool want)))) ⟨fun x => qk P H l ((env.put (some d) (.bool want)).put dst x) K⟩⟩
      ⟨qk P H l ((env.put (some d) (.bool (!want))).put dst (.tup [])) K⟩ ⟨qk P H l (env.put dst (.tup [])) K⟩

class HG where
  f : AV → List Grp → Prop
/-- A call in a region whose order is drawn, beside what writes. -/
def CallG (P : Program) (f : Nat) (xs : List AV) (l : List Grp) [K : HG] : Prop := ∃ y, (∀ H, ACalls P f xs H fun z H' => z = y ∧ H' = H) ∧ K.f y l
def opG (P : Program) : AK → List Grp → List AV → [HG] → Prop
  | .call, l, .fn f caps :: xs, K => CallG P f (xs ++ caps) l
  | .bslice w len z idx, l, xs, K => FitAll w len idx xs ∧ 0 < w ∧ pureL (setAll idx xs (List.replicate len z)) = true ∧ K.f (.full w (setAll idx xs (List.replicate len z))) l
  | k, l, xs, K => (k.still = true ∧ onRefs (· < l.length) xs ∧ stepA P k (hl l) xs fun x _ => K.f x l) ∨ (k.still = false ∧ k.eff.isSome = true ∧ k.appOk = true ∧ stepA P k (hl l) xs fun x H' => ∀ l', H' = hl l' → K.f x l')
def gk (P : Program) : List AOp → Env → List Grp → (Env → List Grp → Prop) → Prop
  | [], env, l, K => K env l
  | ⟨dst, args, none, k⟩ :: r, env, l, K => @opG P k l (args.map (·.eval env)) ⟨fun x l' => gk P r (env.put dst x) l' K⟩
  | ⟨dst, args, some (d, want), k⟩ :: r, env, l, K => @guardW (env d) want
      ⟨@opG P k l (args.map (·.eval (env.put (some d) (.bool want)))) ⟨fun x l' => gk P r ((env.put (some d) (.bool want)).put dst x) l' K⟩⟩
      ⟨gk P r ((env.put (some d) (.bool (!want))).put dst (.tup [])) l K⟩ ⟨gk P r (env.put dst (.tup [])) l K⟩

/-- A choice. -/
def condW (x : AV) [p : HP] [q : HP] : Prop := condK x p.p q.p

/-- What the code asks. -/
def W (P : Program) (n b : Nat) : AC → Env → AHeap → (Ex → Env → AHeap → Prop) → Prop
  | .skip, env, H, Q => Q .normal env H
  | .reg ops, env, H, Q => wk P ops env H fun env' H' => Q .normal env' H'
  | .dreg ops, env, H, Q => qk P H ops env fun env' => Q .normal env' H
  | .dtl pre post, env, H, Q => qk P H pre env fun env' => wk P post env' H fun env' H' => Q .normal env' H'
  | .greg ops, env, H, Q => ∃ l, H = hl l ∧ gk P ops env l fun env' l' => Q .normal env' (hl l')
  | .grx fl ops, env, H, Q => @LoopK ⟨T P n b (.grx fl ops) env H Q⟩
  | .seq x y, env, H, Q => W P n b x env H (Ex.then (fun env' H' => W P n b y env' H' Q) Q)
  | .cond c x y, env, H, Q => @condW (c.eval env) ⟨W P n b x env H Q⟩ ⟨W P n b y env H Q⟩
  | .block id c, env, H, Q => W P n b c env H (Ex.inBlock id Q)
  | .loop c, env, H, Q => @LoopK ⟨T P n b (.loop c) env H Q⟩
  | .rng f ps a c, env, H, Q => @LoopK ⟨T P n b (.rng f ps a c) env H Q⟩
  | .exit id, env, H, Q => Q (.exit id) env H
  | .ret, env, H, Q => Q .ret env H

section
variable {P : Program} {n b : Nat} {env : Env} {H : AHeap} {Q : Ex → Env → AHeap → Prop} {K : Env → AHeap → Prop}

theorem opK_eq (P : Program) (k : AK) (H : AHeap) (xs : List AV) (K : AV → AHeap → Prop) : @opK P k H xs ⟨K⟩ = stepA P k H xs K := by
  unfold opK
  split <;> rfl
theorem opQ_eq (P : Program) (k : AK) (H : AHeap) (xs : List AV) (K : AV → Prop) : @opQ P k H xs ⟨K⟩ = quietA P k H xs K := by
  unfold opQ quietA
  split
  · rfl
  · rfl
  · rename_i h1 h2
    split
    · rename_i f caps ys; exact absurd rfl (h2 f caps ys rfl)
    · rename_i w len z idx; exact absurd rfl (h1 w len z idx)
    · rfl

theorem wk_eq (P : Program) : ∀ (l : List AOp) (env : Env) (H : AHeap) (K : Env → AHeap → Prop), wk P l env H K = runK P l env H K
  | [], _, _, _ => rfl
  | ⟨dst, args, none, k⟩ :: l, env, H, K => by
    have h : (fun x H' => wk P l (env.put dst x) H' K) = fun x H' => runK P l (env.put dst x) H' K := funext fun x => funext fun H' => wk_eq P l _ H' K
    show @opK P k H (args.map (·.eval env)) ⟨_⟩ = _
    rw [h, opK_eq]
    rfl
  | ⟨dst, args, some (d, want), k⟩ :: l, env, H, K => by
    have h : ∀ env : Env, (fun x H' => wk P l (env.put dst x) H' K) = fun x H' => runK P l (env.put dst x) H' K := fun env => funext fun x => funext fun H' => wk_eq P l _ H' K
    show @guardW (env d) want ⟨@opK P k H _ ⟨_⟩⟩ ⟨_⟩ ⟨_⟩ = _
    rw [h, opK_eq, wk_eq, wk_eq]
    rfl
theorem qk_eq (P : Program) (H : AHeap) : ∀ (l : List AOp) (env : Env) (K : Env → Prop), qk P H l env K = runQ P H l env K
  | [], _, _ => rfl
  | ⟨dst, args, none, k⟩ :: l, env, K => by
    have h : (fun x => qk P H l (env.put dst x) K) = fun x => runQ P H l (env.put dst x) K := funext fun x => qk_eq P H l _ K
    show @opQ P k H (args.map (·.eval env)) ⟨_⟩ = _
    rw [h, opQ_eq]
    rfl
  | ⟨dst, args, some (d, want), k⟩ :: l, env, K => by
    have h : ∀ env : Env, (fun x => qk P H l (env.put dst x) K) = fun x => runQ P H l (env.put dst x) K := fun env => funext fun x => qk_eq P H l _ K
    show @guardW (env d) want ⟨@opQ P k H _ ⟨_⟩⟩ ⟨_⟩ ⟨_⟩ = _
    rw [h, opQ_eq, qk_eq, qk_eq]
    rfl

theorem still_eff {k : AK} (h : k.still = true) : k.eff = none := by
  cases k <;> first | rfl | (simp [AK.still] at h)
theorem opG_run {k : AK} {l : List Grp} {xs : List AV} {K : AV → List Grp → Prop} (h : @opG P k l xs ⟨K⟩) : if k.eff.isNone then ∃ x, QG P k l xs x ∧ K x l else ∃ x l', stepA P k (hl l) xs (fun y H' => y = x ∧ H' = hl l') ∧ Comm P k l l' ∧ K x l' := by
  unfold opG at h
  split at h
  · obtain ⟨y, h1, h2⟩ := h
    exact ⟨y, .inl ⟨_, _, _, rfl, rfl, h1⟩, h2⟩
  · exact ⟨_, .inr (.inl ⟨_, _, _, _, rfl, h.1, h.2.1, h.2.2.1, rfl⟩), h.2.2.2⟩
  · rcases h with ⟨h1, h2, h3⟩ | ⟨_, h2, ha, h3⟩
    · rw [still_eff h1]
      obtain ⟨x, h4, h5⟩ := still_one h1 h3
      refine ⟨x, .inr (.inr ⟨h1, h2, ?_⟩), h5⟩
      exact still_mono h1 (fun _ _ hh => hh.1) h4
    · obtain ⟨e, he⟩ := Option.isSome_iff_exists.1 h2
      rw [if_neg (by rw [he]; simp)]
      obtain ⟨x, l', b1, b2, b3⟩ := eff_one he ha h3
      exact ⟨x, l', b1, b3, b2 l' rfl⟩
theorem guardV_mono {x : AV} {w : Bool} {p q r p' q' r' : Prop} (hp : p → p') (hq : q → q') (hr : r → r') (h : guardV x w p q r) : guardV x w p' q' r' := by
  unfold guardV at h ⊢
  split at h <;> first | exact hp h | exact hq h | exact hr h | exact h.elim
theorem gk_run (P : Program) : ∀ (L : List AOp) (env : Env) (l : List Grp) {K : Env → List Grp → Prop}, gk P L env l K → runG P L env l K
  | [], _, _, _, h => h
  | ⟨dst, args, none, k⟩ :: r, env, l, K, h => by
    have h' : @opG P k l (args.map (·.eval env)) ⟨fun x l' => gk P r (env.put dst x) l' K⟩ := h
    have := opG_run h'
    simp only [runG, guardK, AOp.vals, if_true]
    split at this
    · rename_i he
      rw [if_pos he]
      obtain ⟨x, h1, h2⟩ := this
      exact ⟨x, h1, gk_run P r _ _ h2⟩
    · rename_i he
      rw [if_neg he]
      obtain ⟨x, l', b1, b2, b3⟩ := this
      exact ⟨x, l', b1, b2, gk_run P r _ _ b3⟩
  | ⟨dst, args, some (d, want), k⟩ :: r, env, l, K, h => by
    have h' : guardV (env d) want (@opG P k l (args.map (·.eval (env.put (some d) (.bool want)))) ⟨fun x l' => gk P r ((env.put (some d) (.bool want)).put dst x) l' K⟩)
      (gk P r ((env.put (some d) (.bool (!want))).put dst (.tup [])) l K) (gk P r (env.put dst (.tup [])) l K) := h
    simp only [runG, guardK, AOp.vals, if_true, Bool.false_eq_true, if_false]
    refine guardV_mono (fun h1 => ?_) (fun h1 => gk_run P r _ _ h1) (fun h1 => gk_run P r _ _ h1) h'
    have := opG_run h1
    split at this
    · rename_i he
      obtain ⟨x, h1, h2⟩ := this
      rw [if_pos he]
      exact ⟨x, h1, gk_run P r _ _ h2⟩
    · rename_i he
      rw [if_neg he]
      obtain ⟨x, l', b1, b2, b3⟩ := this
      exact ⟨x, l', b1, b2, gk_run P r _ _ b3⟩
theorem hl_inj {l l' : List Grp} (h : hl l = hl l') : l = l' := by
  have h1 : l.length = l'.length := congrArg AHeap.n h
  refine List.ext_getElem h1 fun i hi hi' => ?_
  have h2 : (hl l).at_ i = (hl l').at_ i := by rw [h]
  rw [hl_at, hl_at] at h2
  simpa [List.getD, hi, hi'] using h2

theorem W_T : ∀ {c : AC} {env : Env} {H : AHeap} {Q : Ex → Env → AHeap → Prop}, W P n b c env H Q → T P n b c env H Q
  | .skip, _, _, _, h => T_skip h
  | .reg ops, env, H, Q, h => T_reg (by have h' : wk P ops env H _ := h; rwa [wk_eq] at h')
  | .dreg ops, env, H, Q, h => T_dreg (by have h' : qk P H ops env _ := h; rwa [qk_eq] at h')
  | .dtl pre post, env, H, Q, h => T_dtl (by
    have h' : qk P H pre env _ := h
    rw [qk_eq] at h'
    have e : (fun env' => wk P post env' H fun env' H' => Q .normal env' H') = fun env' => runK P post env' H fun env' H' => Q .normal env' H' := funext fun env' => wk_eq P post env' H _
    rwa [e] at h')
  | .greg ops, env, H, Q, h => by
    obtain ⟨l, rfl, h'⟩ := h
    exact T_greg (gk_run P ops env l h')
  | .grx .., _, _, _, h => h
  | .seq x y, _, _, _, h => T_seq (T.mono (W_T (c := x) h) fun z env H hh => by cases z <;> first | exact W_T (c := y) hh | exact hh)
  | .cond c x y, env, H, Q, h => by
    have h' : condK (c.eval env) (W P n b x env H Q) (W P n b y env H Q) := h
    unfold condK at h'
    split at h'
    · rename_i q hq; exact T_cond hq (fun hb => W_T (h'.1 hb)) (fun hb => W_T (h'.2 hb))
    · exact h'.elim
  | .block id c, _, _, _, h => T_block (W_T (c := c) h)
  | .loop c, _, _, _, h => h
  | .rng .., _, _, _, h => h
  | .exit id, _, _, _, h => T_exit h
  | .ret, _, _, _, h => T_ret h
end

/-! ### The rules of rewriting -/
section
variable {P : Program} {n b : Nat} {env : Env} {H : AHeap} {Q : Ex → Env → AHeap → Prop} {K : Env → AHeap → Prop}
theorem z1 : W P n b .skip env H Q = Q .normal env H := (rfl)
theorem z2 {ops : List AOp} : W P n b (.reg ops) env H Q = wk P ops env H fun env' H' => Q .normal env' H' := (rfl)
theorem z3 {ops : List AOp} : W P n b (.dreg ops) env H Q = qk P H ops env fun env' => Q .normal env' H := (rfl)
theorem z4 {pre post : List AOp} : W P n b (.dtl pre post) env H Q = qk P H pre env fun env' => wk P post env' H fun env' H' => Q .normal env' H' := (rfl)
theorem z5 {ops : List AOp} {l : List Grp} : W P n b (.greg ops) env (hl l) Q = gk P ops env l fun env' l' => Q .normal env' (hl l') :=
  propext ⟨fun ⟨l', h1, h2⟩ => by rw [← hl_inj h1] at h2; exact h2, fun h => ⟨l, rfl, h⟩⟩
theorem z18 {l : List Grp} {K : Env → List Grp → Prop} : gk P [] env l K = K env l := (rfl)
theorem z19 {l : List Grp} {K : Env → List Grp → Prop} {dst : Option Nat} {args : List AArg} {k : AK} {r : List AOp} : gk P (⟨dst, args, none, k⟩ :: r) env l K = @opG P k l (args.map (·.eval env)) ⟨fun x l' => gk P r (env.put dst x) l' K⟩ := (rfl)
theorem z20 {l : List Grp} {K : Env → List Grp → Prop} {dst : Option Nat} {args : List AArg} {k : AK} {r : List AOp} {d : Nat} {want : Bool} : gk P (⟨dst, args, some (d, want), k⟩ :: r) env l K = @guardW (env d) want
      ⟨@opG P k l (args.map (·.eval (env.put (some d) (.bool want)))) ⟨fun x l' => gk P r ((env.put (some d) (.bool want)).put dst x) l' K⟩⟩
      ⟨gk P r ((env.put (some d) (.bool (!want))).put dst (.tup [])) l K⟩ ⟨gk P r (env.put dst (.tup [])) l K⟩ := (rfl)
theorem z6 {x y : AC} : W P n b (.seq x y) env H Q = W P n b x env H (Ex.then (fun env' H' => W P n b y env' H' Q) Q) := (rfl)
theorem z7 {c : AArg} {x y : AC} : W P n b (.cond c x y) env H Q = @condW (c.eval env) ⟨W P n b x env H Q⟩ ⟨W P n b y env H Q⟩ := (rfl)
theorem z8 {id : Nat} {c : AC} : W P n b (.block id c) env H Q = W P n b c env H (Ex.inBlock id Q) := (rfl)
theorem z9 {c : AC} : W P n b (.loop c) env H Q = @LoopK ⟨T P n b (.loop c) env H Q⟩ := (rfl)
theorem z34 {f : AArg} {ps : List Nat} {a c : AC} : W P n b (.rng f ps a c) env H Q = @LoopK ⟨T P n b (.rng f ps a c) env H Q⟩ := (rfl)
theorem z35 {fl : List Bool} {ops : List AOp} : W P n b (.grx fl ops) env H Q = @LoopK ⟨T P n b (.grx fl ops) env H Q⟩ := (rfl)
theorem z10 {id : Nat} : W P n b (.exit id) env H Q = Q (.exit id) env H := (rfl)
theorem z11 : W P n b .ret env H Q = Q .ret env H := (rfl)
theorem z12 : wk P [] env H K = K env H := (rfl)
theorem z13 {dst : Option Nat} {args : List AArg} {k : AK} {l : List AOp} : wk P (⟨dst, args, none, k⟩ :: l) env H K = @opK P k H (args.map (·.eval env)) ⟨fun x H' => wk P l (env.put dst x) H' K⟩ := (rfl)
theorem z14 {dst : Option Nat} {args : List AArg} {k : AK} {l : List AOp} {d : Nat} {want : Bool} : wk P (⟨dst, args, some (d, want), k⟩ :: l) env H K = @guardW (env d) want
      ⟨@opK P k H (args.map (·.eval (env.put (some d) (.bool want)))) ⟨fun x H' => wk P l ((env.put (some d) (.bool want)).put dst x) H' K⟩⟩
      ⟨wk P l ((env.put (some d) (.bool (!want))).put dst (.tup [])) H K⟩ ⟨wk P l (env.put dst (.tup [])) H K⟩ := (rfl)
theorem z15 {K : Env → Prop} : qk P H [] env K = K env := (rfl)
theorem z16 {K : Env → Prop} {dst : Option Nat} {args : List AArg} {k : AK} {l : List AOp} : qk P H (⟨dst, args, none, k⟩ :: l) env K = @opQ P k H (args.map (·.eval env)) ⟨fun x => qk P H l (env.put dst x) K⟩ := (rfl)
theorem z17 {K : Env → Prop} {dst : Option Nat} {args : List AArg} {k : AK} {l : List AOp} {d : Nat} {want : Bool} : qk P H (⟨dst, args, some (d, want), k⟩ :: l) env K = @guardW (env d) want
      ⟨@opQ P k H (args.map (·.eval (env.put (some d) (.bool want)))) ⟨fun x => qk P H l ((env.put (some d) (.bool want)).put dst x) K⟩⟩
      ⟨qk P H l ((env.put (some d) (.bool (!want))).put dst (.tup [])) K⟩ ⟨qk P H l (env.put dst (.tup [])) K⟩ := (rfl)

theorem z21 {p q r : Prop} : @guardW (.bool true) true ⟨p⟩ ⟨q⟩ ⟨r⟩ = p := (rfl)
theorem z22 {p q r : Prop} : @guardW (.bool false) false ⟨p⟩ ⟨q⟩ ⟨r⟩ = p := (rfl)
theorem z23 {p q r : Prop} : @guardW (.bool true) false ⟨p⟩ ⟨q⟩ ⟨r⟩ = q := (rfl)
theorem z24 {p q r : Prop} : @guardW (.bool false) true ⟨p⟩ ⟨q⟩ ⟨r⟩ = q := (rfl)
theorem z25 {w : Bool} {p q r : Prop} : @guardW (.tup []) w ⟨p⟩ ⟨q⟩ ⟨r⟩ = r := by cases w <;> rfl
theorem guardW_split {b w : Bool} {p q r : Prop} (hp : b = w → p) (hq : b = (!w) → q) : @guardW (.bool b) w ⟨p⟩ ⟨q⟩ ⟨r⟩ := guardV_split hp hq
theorem z26 {p q : Prop} : @condW (.bool true) ⟨p⟩ ⟨q⟩ = p := by simp [condW, condK]
theorem z27 {p q : Prop} : @condW (.bool false) ⟨p⟩ ⟨q⟩ = q := by simp [condW, condK]
theorem condW_split {b : Bool} {p q : Prop} (hp : b = true → p) (hq : b = false → q) : @condW (.bool b) ⟨p⟩ ⟨q⟩ := ⟨hp, hq⟩
theorem LoopK_of {p : Prop} (h : p) : @LoopK ⟨p⟩ := h
theorem leW_of {x y : AV} (h : AV.le x y) : @leW x ⟨y⟩ := h
end

theorem resK_mono {P : Program} {env : Env} {H : AHeap} : ∀ {res : List ARes} {K K' : List AV → Prop}, (∀ xs, K xs → K' xs) → resK P res env H K → resK P res env H K'
  | [], _, _, hk, h => hk _ h
  | .slot t :: l, _, _, hk, h => resK_mono (res := l) (fun xs hh => hk _ hh) h
  | .cell t a s :: l, _, _, hk, h => still_mono (k := .load a s) rfl (fun x _ hh => resK_mono (res := l) (fun xs hh => hk _ hh) hh) h
theorem Ret_mono {P : Program} {res : List ARes} {K K' : AV → AHeap → Prop} (hk : ∀ z H, K z H → K' z H) {x : Ex} {env : Env} {H : AHeap} (h : Ret P res K x env H) : Ret P res K' x env H := ⟨h.1, resK_mono (fun xs hh => hk _ _ hh) h.2⟩
/-- What a function gives, from what its code does. -/
theorem pc_w {P : Program} {f m np : Nat} {xs : List AV} {y : AV} {res : List ARes} {B : AC} (hf : compFn P f xs.length = some ⟨m, np, res, B⟩) (d : Nat) (h : W P m 0 B (entry xs) AHeap.nil (Ret P res fun z H => frzOk d H z ∧ @leW (frzV d H z) ⟨y⟩)) : PC P f xs y := pc_at hf d (W_T h)
end Go.Proofs.Ytdmjhlofphhldaa.Abs
