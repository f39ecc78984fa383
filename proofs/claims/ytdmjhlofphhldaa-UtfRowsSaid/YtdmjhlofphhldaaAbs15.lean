/-
  The walk's rules, an operation at a time, what follows behind a letter.
-/
import Derived.Test.YtdmjhlofphhldaaAbs14
import Derived.LoopN
set_option linter.unusedSimpArgs false
set_option linter.unusedVariables false
namespace Go.Proofs.Ytdmjhlofphhldaa.Abs

theorem fput_eval {α : Type} (f : Nat → α) (i : Nat) (y : α) (j : Nat) : fput f i y j = if j = i then y else f j := (rfl)
theorem hput_eval (f : Nat → Grp) (i : Nat) (y : Grp) (j : Nat) : hput f i y j = if j = i then y else f j := (rfl)
theorem put_eval (env : Env) (d : Nat) (x : AV) (j : Nat) : Env.put env (some d) x j = if j = d then x else env j := (rfl)
theorem put_none (env : Env) (x : AV) : Env.put env none x = env := (rfl)
theorem entry_zero (x : AV) (xs : List AV) : entry (x :: xs) 0 = x := (rfl)
theorem entry_succ (x : AV) (xs : List AV) (n : Nat) : entry (x :: xs) (n + 1) = entry xs n := by simp [entry]
theorem slot_eval (env : Env) (t : Nat) : (AArg.slot t).eval env = env t := (rfl)
theorem const_eval (env : Env) (x : AV) : (AArg.const x).eval env = x := (rfl)
theorem guard_eval (b w : Bool) (p q r : Prop) : guardV (.bool b) w p q r = ((b = w → p) ∧ (b = (!w) → q)) := by
  cases b <;> cases w <;> simp [guardV]
theorem guard_none (w : Bool) (p q r : Prop) : guardV (.tup []) w p q r = r := by cases w <;> rfl

theorem optK_some {α : Type} (x : α) (f : α → Prop) : optK (some x) f = f x := (rfl)

def condK (x : AV) (p q : Prop) : Prop := match x with
  | .bool b => (b = true → p) ∧ (b = false → q)
  | _ => False

section
variable {P : Program} {n b : Nat} {env : Env} {H : AHeap} {Q : Ex → Env → AHeap → Prop} {K : Env → AHeap → Prop}

/-- What a function gives, from what its code does. -/
theorem pc_at {f m np : Nat} {xs : List AV} {y : AV} {res : List ARes} {B : AC} (hf : compFn P f xs.length = some ⟨m, np, res, B⟩) (d : Nat) (h : T P m 0 B (entry xs) AHeap.nil (Ret P res fun z H => frzOk d H z ∧ AV.le (frzV d H z) y)) : PC P f xs y := pc hf d h

theorem R_nil (h : K env H) : runK P [] env H K := h
theorem R_op {dst : Option Nat} {args : List AArg} {k : AK} {l : List AOp} (h : ∀ K1 : AV → AHeap → Prop, (∀ x H', runK P l (env.put dst x) H' K → K1 x H') → stepA P k H (args.map (·.eval env)) K1) :
    runK P (⟨dst, args, none, k⟩ :: l) env H K := h _ fun _ _ h => h
theorem R_gop {dst : Option Nat} {args : List AArg} {k : AK} {l : List AOp} {d : Nat} {want : Bool}
    (h : ∀ p q r : Prop, (runK P (⟨dst, args, none, k⟩ :: l) (env.put (some d) (.bool want)) H K → p) → (runK P l ((env.put (some d) (.bool (!want))).put dst (.tup [])) H K → q) → (runK P l (env.put dst (.tup [])) H K → r) → guardV (env d) want p q r) :
    runK P (⟨dst, args, some (d, want), k⟩ :: l) env H K := h _ _ _ id id id

theorem Q_nil {K : Env → Prop} (h : K env) : runQ P H [] env K := h
theorem Q_op {K : Env → Prop} {dst : Option Nat} {args : List AArg} {k : AK} {l : List AOp} (hk : k.still = true) (h : ∀ K1 : AV → AHeap → Prop, (∀ x H', runQ P H l (env.put dst x) K → K1 x H') → stepA P k H (args.map (·.eval env)) K1) :
    runQ P H (⟨dst, args, none, k⟩ :: l) env K := by
  show quietA P k H _ _
  have h' := h (fun x _ => runQ P H l (env.put dst x) K) fun _ _ h => h
  cases k <;> first | exact ⟨rfl, h'⟩ | (exfalso; simp [AK.still] at hk)
theorem Q_call {K : Env → Prop} {dst : Option Nat} {f : Nat} {caps : List AV} {args : List AArg} {l : List AOp} (h : ∃ y, PC P f (args.map (·.eval env) ++ caps) y ∧ pureL (args.map (·.eval env) ++ caps) = true ∧ runQ P H l (env.put dst y) K) :
    runQ P H (⟨dst, .const (.fn f caps) :: args, none, .call⟩ :: l) env K := by
  obtain ⟨y, h1, h2, h3⟩ := h
  exact ⟨y, pc_call' h1 h2 ⟨rfl, rfl⟩, h3⟩
/-- A pure call among operations whose order is drawn. -/
def QC (P : Program) (f : Nat) (xs : List AV) (K : AV → Prop) : Prop := ∃ y, PC P f xs y ∧ pureL xs = true ∧ K y
theorem qc_of {f : Nat} {xs : List AV} {y : AV} {K : AV → Prop} (h : PC P f xs y) (hp : pureL xs = true) (hK : K y) : QC P f xs K := ⟨y, h, hp, hK⟩
theorem Q_qc {K : Env → Prop} {dst : Option Nat} {f : Nat} {caps : List AV} {args : List AArg} {l : List AOp} (h : ∀ K1 : AV → Prop, (∀ y, runQ P H l (env.put dst y) K → K1 y) → QC P f (args.map (·.eval env) ++ caps) K1) :
    runQ P H (⟨dst, .const (.fn f caps) :: args, none, .call⟩ :: l) env K := by
  obtain ⟨y, h1, h2, h3⟩ := h _ fun _ h => h
  exact ⟨y, pc_call' h1 h2 ⟨rfl, rfl⟩, h3⟩
theorem Q_bslice {K : Env → Prop} {dst : Option Nat} {w len : Nat} {z : AV} {idx : List Nat} {args : List AArg} {l : List AOp}
    (h : ∀ K1 : AV → Prop, (∀ x, runQ P H l (env.put dst x) K → K1 x) → FitAll w len idx (args.map (·.eval env)) ∧ 0 < w ∧ pureL (setAll idx (args.map (·.eval env)) (List.replicate len z)) = true ∧ K1 (.full w (setAll idx (args.map (·.eval env)) (List.replicate len z)))) :
    runQ P H (⟨dst, args, none, .bslice w len z idx⟩ :: l) env K := h _ fun _ h => h
theorem Q_gop {K : Env → Prop} {dst : Option Nat} {args : List AArg} {k : AK} {l : List AOp} {d : Nat} {want : Bool}
    (h : ∀ p q r : Prop, (runQ P H (⟨dst, args, none, k⟩ :: l) (env.put (some d) (.bool want)) K → p) → (runQ P H l ((env.put (some d) (.bool (!want))).put dst (.tup [])) K → q) → (runQ P H l (env.put dst (.tup [])) K → r) → guardV (env d) want p q r) :
    runQ P H (⟨dst, args, some (d, want), k⟩ :: l) env K := h _ _ _ id id id

/-- A region, and what follows behind a letter. -/
theorem T_sreg {ops : List AOp} {y : AC} (h : ∀ K : Env → AHeap → Prop, (∀ env' H', T P n b y env' H' Q → K env' H') → runK P ops env H K) : T P n b (.seq (.reg ops) y) env H Q :=
  T_seq (T_reg (h _ fun _ _ hh => hh))
theorem T_sdreg {ops : List AOp} {y : AC} (h : ∀ K : Env → Prop, (∀ env', T P n b y env' H Q → K env') → runQ P H ops env K) : T P n b (.seq (.dreg ops) y) env H Q :=
  T_seq (T_dreg (h _ fun _ hh => hh))
theorem T_reg' {ops : List AOp} (h : ∀ K : Env → AHeap → Prop, (∀ env' H', Q .normal env' H' → K env' H') → runK P ops env H K) : T P n b (.reg ops) env H Q :=
  T_reg (h _ fun _ _ hh => hh)
theorem T_dreg' {ops : List AOp} (h : ∀ K : Env → Prop, (∀ env', Q .normal env' H → K env') → runQ P H ops env K) : T P n b (.dreg ops) env H Q :=
  T_dreg (h _ fun _ hh => hh)
theorem T_cond' {c : AArg} {x y : AC} (h : ∀ p q : Prop, (T P n b x env H Q → p) → (T P n b y env H Q → q) → condK (c.eval env) p q) : T P n b (.cond c x y) env H Q := by
  have := h _ _ id id
  unfold condK at this
  split at this
  · rename_i b hb; exact T_cond hb this.1 this.2
  · exact this.elim
theorem z28 {K : Env → AHeap → Prop} : Ex.then K Q .normal env H = K env H := (rfl)
theorem z29 {K : Env → AHeap → Prop} : Ex.then K Q .ret env H = Q .ret env H := (rfl)
theorem z30 {K : Env → AHeap → Prop} {id : Nat} : Ex.then K Q (.exit id) env H = Q (.exit id) env H := (rfl)
theorem z31 {id : Nat} : Ex.inBlock id Q .normal env H = Q .normal env H := (rfl)
theorem z32 {id : Nat} : Ex.inBlock id Q .ret env H = Q .ret env H := (rfl)
theorem z33 {id k : Nat} : Ex.inBlock id Q (.exit k) env H = if k = id then Q .normal env H else Q (.exit k) env H := (rfl)
end
end Go.Proofs.Ytdmjhlofphhldaa.Abs
