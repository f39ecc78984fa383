/-
  A region of operations: in the order of the text; and, where the order is drawn and nothing is changed, in any order.
-/
import Derived.Test.YtdmjhlofphhldaaAbs10
import Derived.OrdersIn
set_option linter.unusedSimpArgs false
set_option linter.unusedVariables false
namespace Go.Proofs.Ytdmjhlofphhldaa.Abs

def Env.put (env : Env) (dst : Option Nat) (x : AV) : Env := match dst with
  | some d => fput env d x
  | none => env

/-- By what stands in a guard's slot: as wanted; not so; nothing. -/
def guardV : AV → Bool → Prop → Prop → Prop → Prop
  | .bool true, true, p, _, _ => p
  | .bool false, false, p, _, _ => p
  | .bool true, false, _, q, _ => q
  | .bool false, true, _, q, _ => q
  | .tup [], _, _, _, r => r
  | _, _, _, _, _ => False

theorem guardV_split {b w : Bool} {p q r : Prop} (hp : b = w → p) (hq : b = (!w) → q) : guardV (.bool b) w p q r := by
  cases b <;> cases w <;> simp only [guardV] <;> first | exact hp rfl | exact hq rfl
theorem guardV_bool {b w : Bool} {p q r : Prop} (h : guardV (.bool b) w p q r) : (b = w → p) ∧ (b = (!w) → q) := by
  cases b <;> cases w <;> simp only [guardV] at h <;> simp [h]

/-- What a guard lets through; the guard's own slot is then known. -/
def guardK (env : Env) (g : Option (Nat × Bool)) (f : Bool → Env → Prop) : Prop :=
  match g with
  | none => f true env
  | some (d, want) => guardV (env d) want (f true (env.put (some d) (.bool want))) (f false (env.put (some d) (.bool (!want)))) (f false env)

def AOp.vals (o : AOp) (env : Env) : List AV := o.args.map (·.eval env)

/-- A region in the order of the text. -/
def runK (P : Program) : List AOp → Env → AHeap → (Env → AHeap → Prop) → Prop
  | [], env, H, K => K env H
  | o :: l, env, H, K => guardK env o.guard fun w env =>
    if w then stepA P o.k H (o.vals env) fun x H' => runK P l (env.put o.dst x) H' K else runK P l (env.put o.dst (.tup [])) H K

/-- Kinds that change no group. -/
def AK.still : AK → Bool
  | .mv | .pick | .build .. | .load .. | .nilCheck | .bin _ | .eqb _ | .eqs .. | .eqn _ | .un _ | .conv _ | .slice .. | .faddr .. | .field .. | .iaddr _ | .iaddrA .. | .index .. | .indexStr | .extract _ | .len _ | .max | .min | .mkFunc _ | .toStr | .mapGet _ => true
  | _ => false

/-- An operation that changes no group, and yields one value. -/
def quietA (P : Program) (k : AK) (H : AHeap) (xs : List AV) (K : AV → Prop) : Prop :=
  match k, xs with
  | .call, .fn f caps :: ys => ∃ x, ACalls P f (ys ++ caps) H (fun y H' => y = x ∧ H' = H) ∧ K x
  | .bslice w len z idx, xs => FitAll w len idx xs ∧ 0 < w ∧ pureL (setAll idx xs (List.replicate len z)) = true ∧ K (.full w (setAll idx xs (List.replicate len z)))
  | k, xs => k.still = true ∧ stepA P k H xs fun x _ => K x

/-- A region whose order is drawn, in the order of the text. -/
def runQ (P : Program) (H : AHeap) : List AOp → Env → (Env → Prop) → Prop
  | [], env, K => K env
  | o :: l, env, K => guardK env o.guard fun w env =>
    if w then quietA P o.k H (o.vals env) fun x => runQ P H l (env.put o.dst x) K else runQ P H l (env.put o.dst (.tup [])) K

/-! ### The frame -/
/-- Where we are: in a function, or in a round of a loop over a function. -/
def fen (r : Option Nat) : Fence := { Fence.wide with round := r }
def mark (D : Nat) : Deferred := { target := .collected D, args := #[] }
/-- The marks that loops over functions have left. -/
def Marks (S : MS) (ds : List Deferred) : Prop := S.base ≤ S.w.heap.size ∧ ∃ Ds : List Nat, ds = Ds.map mark ∧ Ds.Nodup ∧ ∀ D ∈ Ds, S.base ≤ D ∧ S.keep D ∧ ¬ S.im D ∧ S.w.heap[D]? = some (.deferred (some []))
theorem Marks.of {S S' : MS} {ds : List Deferred} (h : Marks S ds) (hb : S'.base = S.base) (hsz : S.w.heap.size ≤ S'.w.heap.size) (hk : ∀ b, S.keep b → S'.keep b) (hf : ∀ b, S'.im b → S.im b ∨ ¬ S.keep b) (hh : ∀ b, S.keep b → S'.w.heap[b]? = S.w.heap[b]?) : Marks S' ds := by
  obtain ⟨hbs, Ds, h1, h2, h3⟩ := h
  refine ⟨by rw [hb]; exact Nat.le_trans hbs hsz, Ds, h1, h2, fun D hD => ?_⟩
  obtain ⟨k1, k2, k3, k4⟩ := h3 D hD
  refine ⟨by rw [hb]; exact k1, hk D k2, fun hi => ?_, by rw [hh D k2]; exact k4⟩
  rcases hf D hi with h | h
  · exact k3 h
  · exact h k2
theorem Marks.mono {S S' : MS} {ds : List Deferred} (e : Evo S S') (h : Marks S ds) : Marks S' ds := h.of e.base e.size e.keep e.fresh (fun b hb => e.kept b (.inr hb))
theorem Marks.nil {S : MS} (h : S.base ≤ S.w.heap.size) : Marks S [] := ⟨h, [], rfl, List.nodup_nil, fun _ h => by cases h⟩
structure FRel (S : MS) (n : Nat) (env : Env) (a : Act) : Prop where
  size : a.tmps.size = n
  defers : Marks S a.defers
  val : ∀ i, i < n → VRel S (env i) (a.tmps.getD i undef)

theorem FRel.mono {S S' : MS} {n : Nat} {env : Env} {a : Act} (e : Evo S S') (h : FRel S n env a) : FRel S' n env a := ⟨h.size, h.defers.mono e, fun i hi => VRel.mono e _ (h.val i hi)⟩

theorem FRel.put {S : MS} {n : Nat} {env : Env} {a : Act} (h : FRel S n env a) {dst : Option Nat} (hd : dst.all (· < n) = true) {x : AV} {v : Value} (hv : VRel S x v) : FRel S n (env.put dst x) (a.put dst v) := by
  cases dst with
  | none => exact h
  | some d =>
    simp only [Option.all_some, decide_eq_true_eq] at hd
    refine ⟨by show (a.tmps.setIfInBounds d v).size = n; simp [h.size], h.defers, fun i hi => ?_⟩
    show VRel S (if i = d then x else env i) ((a.tmps.setIfInBounds d v).getD i undef)
    by_cases hid : i = d
    · subst hid
      rw [if_pos rfl]
      have : i < a.tmps.size := by rw [h.size]; exact hi
      simpa [this] using hv
    · rw [if_neg hid]
      have := h.val i hi
      simpa [Array.getElem?_setIfInBounds_ne (Ne.symm hid)] using this

section
variable {P : Program} {S : MS} {H : AHeap} {n : Nat}

theorem arg_rel {env : Env} {a : Act} (hF : FRel S n env a) {x : Operand} {y : AArg} (h : compArg n x = some y) : VRel S (y.eval env) (a.eval x) := by
  cases x <;> simp only [compArg] at h
  · rename_i t
    split at h
    · rename_i ht; cases h; exact hF.val t ht
    · cases h
  · rename_i v
    obtain ⟨z, hz, rfl⟩ := Option.map_eq_some_iff.1 h
    exact avOf_rel hz
  · cases h
  · rename_i f; cases h; exact ⟨[], rfl, rfl⟩

theorem args_rel {env : Env} {a : Act} (hF : FRel S n env a) : ∀ {l : List Operand} {l' : List AArg}, l.mapM (compArg n) = some l' → VsRel S (l'.map (·.eval env)) (l.map a.eval)
  | [], l', h => by simp at h; subst h; rfl
  | x :: l, l', h => by
    rw [List.mapM_cons] at h
    simp only [Option.bind_eq_bind, Option.bind_eq_some_iff, Option.pure_def, Option.some.injEq] at h
    obtain ⟨y, hy, r, hr, rfl⟩ := h
    exact ⟨_, _, rfl, arg_rel hF hy, args_rel hF hr⟩

theorem compOp_spec {ops : Array Oper} {o : Oper} {q : AOp} (h : compOp P n ops o = some q) : compK P o.op = some q.k ∧ o.op.operands.toList.mapM (compArg n) = some q.args ∧ q.dst = o.dst ∧ o.dst.all (· < n) = true ∧
    ((o.guard = none ∧ q.guard = none) ∨ ∃ j want d, o.guard = some (j, want) ∧ q.guard = some (d, want) ∧ (ops[j]?).bind (·.dst) = some d ∧ d < n) := by
  unfold compOp at h
  split at h
  · rename_i k args hk hargs
    split at h
    · rename_i hd
      split at h
      · rename_i hg; cases h; exact ⟨hk, hargs, rfl, hd, .inl ⟨hg, rfl⟩⟩
      · rename_i j want hg
        split at h
        · rename_i d hj
          split at h
          · rename_i hdn; cases h; exact ⟨hk, hargs, rfl, hd, .inr ⟨j, want, d, hg, rfl, hj, hdn⟩⟩
          · cases h
        · cases h
    · cases h
  · cases h

theorem yielded_eq {env : Env} {a : Act} (hF : FRel S n env a) {ops : Array Oper} {j d : Nat} (hj : (ops[j]?).bind (·.dst) = some d) (hd : d < n) :
    (∀ b, env d = .bool b → yielded ops a.tmps j = some b) ∧ (env d = .tup [] → yielded ops a.tmps j = none) := by
  have hv := hF.val d hd
  have hlt : d < a.tmps.size := by rw [hF.size]; exact hd
  have e : a.tmps[d]? = some (a.tmps.getD d undef) := by simp [hlt]
  refine ⟨fun b hb => ?_, fun hb => ?_⟩
  · rw [hb] at hv
    simp only [yielded, hj, Option.bind_some, e, show a.tmps.getD d undef = .bool b from hv]
  · rw [hb] at hv
    obtain ⟨vs, hv, hvs⟩ := hv
    simp only [yielded, hj, Option.bind_some, e, hv]

theorem put_id {env : Env} {d : Nat} {x : AV} (h : env d = x) : env.put (some d) x = env := by
  funext j
  show (if j = d then x else env j) = _
  split
  · rename_i hj; rw [hj, h]
  · rfl

/-- What a guard's Bool decides. -/
theorem guardK_spec {ops : Array Oper} {o : Oper} {q : AOp} (h : compOp P n ops o = some q) {env : Env} {a : Act} (hF : FRel S n env a) {f : Bool → Env → Prop} (hg : guardK env q.guard f) :
    f (Region.wanted o (yielded ops a.tmps)) env := by
  obtain ⟨_, _, _, _, h5⟩ := compOp_spec h
  rcases h5 with ⟨h1, h2⟩ | ⟨j, want, d, h1, h2, h3, h4⟩
  · rw [h2] at hg
    have : Region.wanted o (yielded ops a.tmps) = true := by simp [Region.wanted, h1]
    rw [this]
    exact hg
  · rw [h2] at hg
    obtain ⟨y1, y2⟩ := yielded_eq hF h3 h4
    simp only [guardK] at hg
    cases hx : env d <;> rw [hx] at hg <;> try exact (show False from hg).elim
    · rename_i b
      have hg := guardV_bool hg
      have hy := y1 b hx
      have hw : Region.wanted o (yielded ops a.tmps) = (b == want) := by simp only [Region.wanted, h1, hy]; cases b <;> cases want <;> rfl
      rw [hw]
      by_cases hb : b = want
      · have := hg.1 hb
        rw [put_id (by rw [hx, hb])] at this
        simpa [hb] using this
      · have hb' : b = !want := by cases b <;> cases want <;> simp_all
        have := hg.2 hb'
        rw [put_id (by rw [hx, hb'])] at this
        have e : (b == want) = false := by simpa using hb
        rw [e]
        exact this
    · rename_i vs
      cases vs with
      | nil =>
        have hw : Region.wanted o (yielded ops a.tmps) = false := by simp [Region.wanted, h1, y2 hx]
        rw [hw]
        exact hg
      | cons _ _ => exact (show False from hg).elim

/-- THE STATE behind a piece of code. -/
def Post (P : Program) (S : MS) (n : Nat) (K : Env → AHeap → Prop) (a : Act) (w : World) : Prop := ∃ S' env H', S'.w = w ∧ Evo S S' ∧ SRel S' H' ∧ FRel S' n env a ∧ K env H'

theorem undef_rel {S : MS} : VRel S (.tup []) undef := ⟨[], rfl, rfl⟩

theorem calls_fen {f : FuncId} {args : Array Value} {w : World} {R : Ending → World → Prop} {r : Option Nat} {m : Nat} (h : Calls P f args w R) : CallsIn (fen r) m P f args w R := by
  have := (callsIn_wide (n := m)).2 h
  exact this
/-- One operation, carried out. -/
theorem op_ok (hS : SRel S H) {env : Env} {a : Act} (hF : FRel S n env a) {o : Oper} {q : AOp} {ops : Array Oper} (h : compOp P n ops o = some q) {K : AV → AHeap → Prop} (hst : stepA P q.k H (q.vals env) K)
    {N : Act → World → Prop} {Q : Exit → Act → World → Prop} (hN : ∀ S' H' x a', Evo S S' → SRel S' H' → FRel S' n (env.put q.dst x) a' → K x H' → N a' S'.w) (r : Option Nat) (m : Nat) : o.wpIn (fen r) m P a S.w N Q := by
  obtain ⟨h1, h2, h3, h4, _⟩ := compOp_spec h
  have hargs := args_rel hF h2
  have hsem : o.semAt (fen r).round a.eval = execOp a.eval o := Oper.semAt_eq _ _ _ fun c hc => by rw [hc] at h1; cases h1
  rcases step_sound hS o h1 (ρ := a.eval) hargs hst with ⟨v, S', x, H', hr, e, hS', hv, hK⟩ | ⟨f, cargs, hr, hc⟩
  · have hN' := fun v' (hv' : VRel S' x v') => hN S' H' x (a.put o.dst v') e hS' (by rw [h3]; exact (hF.mono e).put h4 hv') hK
    refine ⟨fun _ _ => trivial, ?_⟩
    rw [hsem]
    rcases hr with hr | ⟨hr, rfl⟩ <;> rw [hr]
    · exact hN' v hv
    · exact hN' undef hv
  · refine ⟨fun _ _ => trivial, ?_⟩
    rw [hsem, hr, Oper.uponIn_enter]
    refine ⟨fun h => (by cases h), calls_fen (hc.mono fun e w' hh => ?_)⟩
    obtain ⟨v, S', x, H', rfl, rfl, ev, hS', hv, hK⟩ := hh
    exact hN S' H' x (a.put o.dst v) ev hS' (by rw [h3]; exact (hF.mono ev).put h4 hv) hK

theorem run_sound {ops : Array Oper} {Q : Exit → Act → World → Prop} : ∀ (l : List Oper) (l' : List AOp) (k : Nat), (∀ j, l[j]? = ops[k + j]?) → l.mapM (compOp P n ops) = some l' → ∀ {S : MS} {H : AHeap} {env : Env} {a : Act} {K : Env → AHeap → Prop},
    SRel S H → FRel S n env a → runK P l' env H K → (∀ S' H' env' a', Evo S S' → SRel S' H' → FRel S' n env' a' → K env' H' → Q .normal a' S'.w) → ∀ (rd : Option Nat) (m : Nat), wpOpsIn (fen rd) m P ops Q (List.range' k l.length) a S.w
  | [], l', k, _, hm, S, H, env, a, K, hS, hF, hr, hQ, rd, m => by
    simp at hm
    subst hm
    exact hQ S H env a (.refl S) hS hF hr
  | o :: l, l', k, hl, hm, S, H, env, a, K, hS, hF, hr, hQ, rd, m => by
    rw [List.mapM_cons] at hm
    simp only [Option.bind_eq_bind, Option.bind_eq_some_iff, Option.pure_def, Option.some.injEq] at hm
    obtain ⟨q, hq, r, hrr, rfl⟩ := hm
    have h0 : ops[k]? = some o := by simpa using (hl 0).symm
    have hl' : ∀ j, l[j]? = ops[k + 1 + j]? := fun j => by have := hl (j + 1); simpa [Nat.add_assoc, Nat.add_comm 1 j] using this
    have hg := guardK_spec hq hF hr
    rw [show List.range' k (o :: l).length = k :: List.range' (k + 1) l.length from rfl]
    simp only [wpOpsIn, h0]
    cases hw : Region.wanted o (yielded ops a.tmps)
    · rw [hw] at hg
      simp only [Bool.false_eq_true, if_false] at hg ⊢
      obtain ⟨_, _, h3, h4, _⟩ := compOp_spec hq
      exact ⟨fun _ _ => trivial, run_sound l r (k + 1) hl' hrr hS (by rw [h3]; exact hF.put h4 undef_rel) hg hQ rd m⟩
    · rw [hw] at hg
      simp only [if_true] at hg ⊢
      refine op_ok hS hF hq hg (fun S' H' x a' e hS' hF' hK => ?_) rd m
      exact run_sound l r (k + 1) hl' hrr hS' hF' hK (fun S2 H2 env2 a2 e2 hS2 hF2 hK2 => hQ S2 H2 env2 a2 (e.trans e2) hS2 hF2 hK2) rd m

end
end Go.Proofs.Ytdmjhlofphhldaa.Abs
