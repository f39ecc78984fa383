/-
  The walk as rewriting: what a piece of code asks ('W'), unfolded from the front, an operation at a time; it stops at calls and at loops.
  What each operation asks, as rules of rewriting.
  Groups numbered anew: at a point of the code some groups are kept, under new numbers; all others are read as data from there on.
  Heaps written out as lists of groups; heads of loops: which slots and which groups go on, and as what.
  The walk's rules for heaps that are written out, for heads of loops, and for calls.
  The data of the program, and how values mean it.
  What comes in is data: numbers, Bools, texts, slices and records of them, however deep.
  A whole law: from a contract for all data that may come in to the row that it asks for.
-/
import Derived.Deep.Slices
import Derived.OpenShut
import Derived.Carry
import Derived.WideShapes
import Derived.ProofKit
import Derived.ChangeOld
import Derived.Test.YticodgjinajkpaaDA2
set_option linter.unusedSimpArgs false
set_option linter.unusedVariables false
namespace Go.Proofs.Yticodgjinajkpaa.Abs
class HK where
 f : AV → z02 → Prop
class HQ where
 f : AV → Prop
class HP where
 p : Prop
class HY where
 y : AV
def zm5 (P : Program) (f : Nat) (xs : List AV) (H : z02) [K : HK] : Prop := z0z P f xs H K.f
def zyc (P : Program) (f : Nat) (xs : List AV) (H : z02) [K : HQ] : Prop := ∃ y, z0z P f xs H (fun z H' => z = y ∧ H' = H) ∧ K.f y
def z8q [L : HP] : Prop := L.p
def opK (P : Program) : AK → z02 → List AV → [HK] → Prop
 | .call, H, .fn f caps :: xs, K => zm5 P f (xs ++ caps) H
 | k, H, xs, K => z05 P k H xs K.f
def opQ (P : Program) : AK → z02 → List AV → [HQ] → Prop
 | .call, H, .fn f caps :: xs, K => zyc P f (xs ++ caps) H
 | .bslice w len z idx, H, xs, K => z61 w len idx xs ∧ 0 < w ∧ z0l (z3n idx xs (List.replicate len z)) = true ∧ K.f (.full w (z3n idx xs (List.replicate len z)))
 | k, H, xs, K => k.still = true ∧ z05 P k H xs fun x _ => K.f x
def z4g (x : AV) (w : Bool) [p : HP] [q : HP] [r : HP] : Prop := z5l x w p.p q.p r.p
def wk (P : Program) : List AOp → Env → z02 → (Env → z02 → Prop) → Prop
 | [], env, H, K => K env H
 | ⟨dst, args, none, k⟩ :: l, env, H, K => @opK P k H (args.map (·.eval env)) ⟨fun x H' => wk P l (env.put dst x) H' K⟩
 | ⟨dst, args, some (d, want), k⟩ :: l, env, H, K => @z4g (env d) want
     ⟨@opK P k H (args.map (·.eval (env.put (some d) (.bool want)))) ⟨fun x H' => wk P l ((env.put (some d) (.bool want)).put dst x) H' K⟩⟩
     ⟨wk P l ((env.put (some d) (.bool (!want))).put dst (.tup [])) H K⟩ ⟨wk P l (env.put dst (.tup [])) H K⟩
def qk (P : Program) (H : z02) : List AOp → Env → (Env → Prop) → Prop
 | [], env, K => K env
 | ⟨dst, args, none, k⟩ :: l, env, K => @opQ P k H (args.map (·.eval env)) ⟨fun x => qk P H l (env.put dst x) K⟩
 | ⟨dst, args, some (d, want), k⟩ :: l, env, K => @z4g (env d) want
     ⟨@opQ P k H (args.map (·.eval (env.put (some d) (.bool want)))) ⟨fun x => qk P H l ((env.put (some d) (.bool want)).put dst x) K⟩⟩
     ⟨qk P H l ((env.put (some d) (.bool (!want))).put dst (.tup [])) K⟩ ⟨qk P H l (env.put dst (.tup [])) K⟩
class HG where
 f : AV → List Grp → Prop
def zyd (P : Program) (f : Nat) (xs : List AV) (l : List Grp) [K : HG] : Prop := ∃ y, (∀ H, z0z P f xs H fun z H' => z = y ∧ H' = H) ∧ K.f y l
def opG (P : Program) : AK → List Grp → List AV → [HG] → Prop
 | .call, l, .fn f caps :: xs, K => zyd P f (xs ++ caps) l
 | .bslice w len z idx, l, xs, K => z61 w len idx xs ∧ 0 < w ∧ z0l (z3n idx xs (List.replicate len z)) = true ∧ K.f (.full w (z3n idx xs (List.replicate len z))) l
 | k, l, xs, K => (k.still = true ∧ z1a (· < l.length) xs ∧ z05 P k (hl l) xs fun x _ => K.f x l) ∨ (k.still = false ∧ k.eff.isSome = true ∧ k.appOk = true ∧ zh3 k xs ∧ z05 P k (hl l) xs fun x H' => ∀ l', H' = hl l' → K.f x l')
def gk (P : Program) : List AOp → Env → List Grp → (Env → List Grp → Prop) → Prop
 | [], env, l, K => K env l
 | ⟨dst, args, none, k⟩ :: r, env, l, K => @opG P k l (args.map (·.eval env)) ⟨fun x l' => gk P r (env.put dst x) l' K⟩
 | ⟨dst, args, some (d, want), k⟩ :: r, env, l, K => @z4g (env d) want
     ⟨@opG P k l (args.map (·.eval (env.put (some d) (.bool want)))) ⟨fun x l' => gk P r ((env.put (some d) (.bool want)).put dst x) l' K⟩⟩
     ⟨gk P r ((env.put (some d) (.bool (!want))).put dst (.tup [])) l K⟩ ⟨gk P r (env.put dst (.tup [])) l K⟩
def zm6 (x : AV) [p : HP] [q : HP] : Prop := zm4 x p.p q.p
def W (P : Program) (n b : Nat) : AC → Env → z02 → (Ex → Env → z02 → Prop) → Prop
 | .skip, env, H, Q => Q .normal env H
 | .reg ops, env, H, Q => wk P ops env H fun env' H' => Q .normal env' H'
 | .dreg ops, env, H, Q => qk P H ops env fun env' => Q .normal env' H
 | .dtl pre post, env, H, Q => qk P H pre env fun env' => wk P post env' H fun env' H' => Q .normal env' H'
 | .greg ops, env, H, Q => ∃ l, H = hl l ∧ gk P ops env l fun env' l' => Q .normal env' (hl l')
 | .grx fl ops, env, H, Q => @z8q ⟨T P n b (.grx fl ops) env H Q⟩
 | .gry fl ops, env, H, Q => @z8q ⟨T P n b (.gry fl ops) env H Q⟩
 | .seq x y, env, H, Q => W P n b x env H (Ex.then (fun env' H' => W P n b y env' H' Q) Q)
 | .cond c x y, env, H, Q => @zm6 (c.eval env) ⟨W P n b x env H Q⟩ ⟨W P n b y env H Q⟩
 | .block id c, env, H, Q => W P n b c env H (Ex.inBlock id Q)
 | .loop c, env, H, Q => @z8q ⟨T P n b (.loop c) env H Q⟩
 | .rng f ps a c, env, H, Q => @z8q ⟨T P n b (.rng f ps a c) env H Q⟩
 | .exit id, env, H, Q => Q (.exit id) env H
 | .ret, env, H, Q => Q .ret env H
section
variable {P : Program} {n b : Nat} {env : Env} {H : z02} {Q : Ex → Env → z02 → Prop} {K : Env → z02 → Prop}
theorem zon (P : Program) (k : AK) (H : z02) (xs : List AV) (K : AV → z02 → Prop) : @opK P k H xs ⟨K⟩ = z05 P k H xs K := by
 unfold opK
 split <;> rfl
theorem y1v (P : Program) (k : AK) (H : z02) (xs : List AV) (K : AV → Prop) : @opQ P k H xs ⟨K⟩ = zjc P k H xs K := by
 unfold opQ zjc
 split
 · rfl
 · rfl
 · rename_i h1 h2
   split
   · rename_i f caps ys; exact absurd rfl (h2 f caps ys rfl)
   · rename_i w len z idx; exact absurd rfl (h1 w len z idx)
   · rfl
theorem zf0 (P : Program) : ∀ (l : List AOp) (env : Env) (H : z02) (K : Env → z02 → Prop), wk P l env H K = runK P l env H K
 | [], _, _, _ => rfl
 | ⟨dst, args, none, k⟩ :: l, env, H, K => by
   have h : (fun x H' => wk P l (env.put dst x) H' K) = fun x H' => runK P l (env.put dst x) H' K := funext fun x => funext fun H' => zf0 P l _ H' K
   show @opK P k H (args.map (·.eval env)) ⟨_⟩ = _
   rw [h, zon]
   rfl
 | ⟨dst, args, some (d, want), k⟩ :: l, env, H, K => by
   have h : ∀ env : Env, (fun x H' => wk P l (env.put dst x) H' K) = fun x H' => runK P l (env.put dst x) H' K := fun env => funext fun x => funext fun H' => zf0 P l _ H' K
   show @z4g (env d) want ⟨@opK P k H _ ⟨_⟩⟩ ⟨_⟩ ⟨_⟩ = _
   rw [h, zon, zf0, zf0]
   rfl
theorem zqs (P : Program) (H : z02) : ∀ (l : List AOp) (env : Env) (K : Env → Prop), qk P H l env K = runQ P H l env K
 | [], _, _ => rfl
 | ⟨dst, args, none, k⟩ :: l, env, K => by
   have h : (fun x => qk P H l (env.put dst x) K) = fun x => runQ P H l (env.put dst x) K := funext fun x => zqs P H l _ K
   show @opQ P k H (args.map (·.eval env)) ⟨_⟩ = _
   rw [h, y1v]
   rfl
 | ⟨dst, args, some (d, want), k⟩ :: l, env, K => by
   have h : ∀ env : Env, (fun x => qk P H l (env.put dst x) K) = fun x => runQ P H l (env.put dst x) K := fun env => funext fun x => zqs P H l _ K
   show @z4g (env d) want ⟨@opQ P k H _ ⟨_⟩⟩ ⟨_⟩ ⟨_⟩ = _
   rw [h, y1v, zqs, zqs]
   rfl
theorem ztn {k : AK} (h : k.still = true) : k.eff = none := by
 cases k <;> first | rfl | (simp [AK.still] at h)
theorem zhj {k : AK} {l : List Grp} {xs : List AV} {K : AV → List Grp → Prop} (h : @opG P k l xs ⟨K⟩) : if k.eff.isNone then ∃ x, QG P k l xs x ∧ K x l else ∃ x l', z05 P k (hl l) xs (fun y H' => y = x ∧ H' = hl l') ∧ Comm P k l l' ∧ K x l' := by
 unfold opG at h
 split at h
 · obtain ⟨y, h1, h2⟩ := h
   exact ⟨y, .inl ⟨_, _, _, rfl, rfl, h1⟩, h2⟩
 · exact ⟨_, .inr (.inl ⟨_, _, _, _, rfl, h.1, h.2.1, h.2.2.1, rfl⟩), h.2.2.2⟩
 · rcases h with ⟨h1, h2, h3⟩ | ⟨_, h2, ha, ho, h3⟩
   · rw [ztn h1]
     obtain ⟨x, h4, h5⟩ := zcl h1 h3
     refine ⟨x, .inr (.inr ⟨h1, h2, ?_⟩), h5⟩
     exact still_mono h1 (fun _ _ hh => hh.1) h4
   · obtain ⟨e, he⟩ := Option.isSome_iff_exists.1 h2
     rw [if_neg (by rw [he]; simp)]
     obtain ⟨x, l', b1, b2, b3⟩ := y2u he ha ho h3
     exact ⟨x, l', b1, b3, b2 l' rfl⟩
theorem zcp {x : AV} {w : Bool} {p q r p' q' r' : Prop} (hp : p → p') (hq : q → q') (hr : r → r') (h : z5l x w p q r) : z5l x w p' q' r' := by
 unfold z5l at h ⊢
 split at h <;> first | exact hp h | exact hq h | exact hr h | exact h.elim
theorem zcq (P : Program) : ∀ (L : List AOp) (env : Env) (l : List Grp) {K : Env → List Grp → Prop}, gk P L env l K → runG P L env l K
 | [], _, _, _, h => h
 | ⟨dst, args, none, k⟩ :: r, env, l, K, h => by
   have h' : @opG P k l (args.map (·.eval env)) ⟨fun x l' => gk P r (env.put dst x) l' K⟩ := h
   have := zhj h'
   simp only [runG, z6v, AOp.vals, if_true]
   split at this
   · rename_i he
     rw [if_pos he]
     obtain ⟨x, h1, h2⟩ := this
     exact ⟨x, h1, zcq P r _ _ h2⟩
   · rename_i he
     rw [if_neg he]
     obtain ⟨x, l', b1, b2, b3⟩ := this
     exact ⟨x, l', b1, b2, zcq P r _ _ b3⟩
 | ⟨dst, args, some (d, want), k⟩ :: r, env, l, K, h => by
   have h' : z5l (env d) want (@opG P k l (args.map (·.eval (env.put (some d) (.bool want)))) ⟨fun x l' => gk P r ((env.put (some d) (.bool want)).put dst x) l' K⟩)
     (gk P r ((env.put (some d) (.bool (!want))).put dst (.tup [])) l K) (gk P r (env.put dst (.tup [])) l K) := h
   simp only [runG, z6v, AOp.vals, if_true, Bool.false_eq_true, if_false]
   refine zcp (fun h1 => ?_) (fun h1 => zcq P r _ _ h1) (fun h1 => zcq P r _ _ h1) h'
   have := zhj h1
   split at this
   · rename_i he
     obtain ⟨x, h1, h2⟩ := this
     rw [if_pos he]
     exact ⟨x, h1, zcq P r _ _ h2⟩
   · rename_i he
     rw [if_neg he]
     obtain ⟨x, l', b1, b2, b3⟩ := this
     exact ⟨x, l', b1, b2, zcq P r _ _ b3⟩
theorem y1w {l l' : List Grp} (h : hl l = hl l') : l = l' := by
 have h1 : l.length = l'.length := congrArg z02.n h
 refine List.ext_getElem h1 fun i hi hi' => ?_
 have h2 : (hl l).at_ i = (hl l').at_ i := by rw [h]
 rw [z2z, z2z] at h2
 simpa [List.getD, hi, hi'] using h2
theorem W_T : ∀ {c : AC} {env : Env} {H : z02} {Q : Ex → Env → z02 → Prop}, W P n b c env H Q → T P n b c env H Q
 | .skip, _, _, _, h => y6w h
 | .reg ops, env, H, Q, h => T_reg (by have h' : wk P ops env H _ := h; rwa [zf0] at h')
 | .dreg ops, env, H, Q, h => y6x (by have h' : qk P H ops env _ := h; rwa [zqs] at h')
 | .dtl pre post, env, H, Q, h => T_dtl (by
   have h' : qk P H pre env _ := h
   rw [zqs] at h'
   have e : (fun env' => wk P post env' H fun env' H' => Q .normal env' H') = fun env' => runK P post env' H fun env' H' => Q .normal env' H' := funext fun env' => zf0 P post env' H _
   rwa [e] at h')
 | .greg ops, env, H, Q, h => by
   obtain ⟨l, rfl, h'⟩ := h
   exact y6y (zcq P ops env l h')
 | .grx .., _, _, _, h => h
 | .gry .., _, _, _, h => h
 | .seq x y, _, _, _, h => T_seq (T.mono (W_T (c := x) h) fun z env H hh => by cases z <;> first | exact W_T (c := y) hh | exact hh)
 | .cond c x y, env, H, Q, h => by
   have h' : zm4 (c.eval env) (W P n b x env H Q) (W P n b y env H Q) := h
   unfold zm4 at h'
   split at h'
   · rename_i q hq; exact y6z hq (fun hb => W_T (h'.1 hb)) (fun hb => W_T (h'.2 hb))
   · exact h'.elim
 | .block id c, _, _, _, h => y2v (W_T (c := c) h)
 | .loop c, _, _, _, h => h
 | .rng .., _, _, _, h => h
 | .exit id, _, _, _, h => y70 h
 | .ret, _, _, _, h => T_ret h
end
section
variable {P : Program} {n b : Nat} {env : Env} {H : z02} {Q : Ex → Env → z02 → Prop} {K : Env → z02 → Prop}
theorem z1 : W P n b .skip env H Q = Q .normal env H := (rfl)
theorem z2 {ops : List AOp} : W P n b (.reg ops) env H Q = wk P ops env H fun env' H' => Q .normal env' H' := (rfl)
theorem z3 {ops : List AOp} : W P n b (.dreg ops) env H Q = qk P H ops env fun env' => Q .normal env' H := (rfl)
theorem z4 {pre post : List AOp} : W P n b (.dtl pre post) env H Q = qk P H pre env fun env' => wk P post env' H fun env' H' => Q .normal env' H' := (rfl)
theorem z5 {ops : List AOp} {l : List Grp} : W P n b (.greg ops) env (hl l) Q = gk P ops env l fun env' l' => Q .normal env' (hl l') :=
 propext ⟨fun ⟨l', h1, h2⟩ => by rw [← y1w h1] at h2; exact h2, fun h => ⟨l, rfl, h⟩⟩
theorem z18 {l : List Grp} {K : Env → List Grp → Prop} : gk P [] env l K = K env l := (rfl)
theorem z19 {l : List Grp} {K : Env → List Grp → Prop} {dst : Option Nat} {args : List AArg} {k : AK} {r : List AOp} : gk P (⟨dst, args, none, k⟩ :: r) env l K = @opG P k l (args.map (·.eval env)) ⟨fun x l' => gk P r (env.put dst x) l' K⟩ := (rfl)
theorem z20 {l : List Grp} {K : Env → List Grp → Prop} {dst : Option Nat} {args : List AArg} {k : AK} {r : List AOp} {d : Nat} {want : Bool} : gk P (⟨dst, args, some (d, want), k⟩ :: r) env l K = @z4g (env d) want
     ⟨@opG P k l (args.map (·.eval (env.put (some d) (.bool want)))) ⟨fun x l' => gk P r ((env.put (some d) (.bool want)).put dst x) l' K⟩⟩
     ⟨gk P r ((env.put (some d) (.bool (!want))).put dst (.tup [])) l K⟩ ⟨gk P r (env.put dst (.tup [])) l K⟩ := (rfl)
theorem z6 {x y : AC} : W P n b (.seq x y) env H Q = W P n b x env H (Ex.then (fun env' H' => W P n b y env' H' Q) Q) := (rfl)
theorem z7 {c : AArg} {x y : AC} : W P n b (.cond c x y) env H Q = @zm6 (c.eval env) ⟨W P n b x env H Q⟩ ⟨W P n b y env H Q⟩ := (rfl)
theorem z8 {id : Nat} {c : AC} : W P n b (.block id c) env H Q = W P n b c env H (Ex.inBlock id Q) := (rfl)
theorem z9 {c : AC} : W P n b (.loop c) env H Q = @z8q ⟨T P n b (.loop c) env H Q⟩ := (rfl)
theorem z34 {f : AArg} {ps : List Nat} {a c : AC} : W P n b (.rng f ps a c) env H Q = @z8q ⟨T P n b (.rng f ps a c) env H Q⟩ := (rfl)
theorem z35 {fl : List Bool} {ops : List AOp} : W P n b (.grx fl ops) env H Q = @z8q ⟨T P n b (.grx fl ops) env H Q⟩ := (rfl)
theorem z36 {fl : List Bool} {ops : List AOp} : W P n b (.gry fl ops) env H Q = @z8q ⟨T P n b (.gry fl ops) env H Q⟩ := (rfl)
theorem z10 {id : Nat} : W P n b (.exit id) env H Q = Q (.exit id) env H := (rfl)
theorem z11 : W P n b .ret env H Q = Q .ret env H := (rfl)
theorem z12 : wk P [] env H K = K env H := (rfl)
theorem z13 {dst : Option Nat} {args : List AArg} {k : AK} {l : List AOp} : wk P (⟨dst, args, none, k⟩ :: l) env H K = @opK P k H (args.map (·.eval env)) ⟨fun x H' => wk P l (env.put dst x) H' K⟩ := (rfl)
theorem z14 {dst : Option Nat} {args : List AArg} {k : AK} {l : List AOp} {d : Nat} {want : Bool} : wk P (⟨dst, args, some (d, want), k⟩ :: l) env H K = @z4g (env d) want
     ⟨@opK P k H (args.map (·.eval (env.put (some d) (.bool want)))) ⟨fun x H' => wk P l ((env.put (some d) (.bool want)).put dst x) H' K⟩⟩
     ⟨wk P l ((env.put (some d) (.bool (!want))).put dst (.tup [])) H K⟩ ⟨wk P l (env.put dst (.tup [])) H K⟩ := (rfl)
theorem z15 {K : Env → Prop} : qk P H [] env K = K env := (rfl)
theorem z16 {K : Env → Prop} {dst : Option Nat} {args : List AArg} {k : AK} {l : List AOp} : qk P H (⟨dst, args, none, k⟩ :: l) env K = @opQ P k H (args.map (·.eval env)) ⟨fun x => qk P H l (env.put dst x) K⟩ := (rfl)
theorem z17 {K : Env → Prop} {dst : Option Nat} {args : List AArg} {k : AK} {l : List AOp} {d : Nat} {want : Bool} : qk P H (⟨dst, args, some (d, want), k⟩ :: l) env K = @z4g (env d) want
     ⟨@opQ P k H (args.map (·.eval (env.put (some d) (.bool want)))) ⟨fun x => qk P H l ((env.put (some d) (.bool want)).put dst x) K⟩⟩
     ⟨qk P H l ((env.put (some d) (.bool (!want))).put dst (.tup [])) K⟩ ⟨qk P H l (env.put dst (.tup [])) K⟩ := (rfl)
theorem z21 {p q r : Prop} : @z4g (.bool true) true ⟨p⟩ ⟨q⟩ ⟨r⟩ = p := (rfl)
theorem z22 {p q r : Prop} : @z4g (.bool false) false ⟨p⟩ ⟨q⟩ ⟨r⟩ = p := (rfl)
theorem z23 {p q r : Prop} : @z4g (.bool true) false ⟨p⟩ ⟨q⟩ ⟨r⟩ = q := (rfl)
theorem z24 {p q r : Prop} : @z4g (.bool false) true ⟨p⟩ ⟨q⟩ ⟨r⟩ = q := (rfl)
theorem z25 {w : Bool} {p q r : Prop} : @z4g (.tup []) w ⟨p⟩ ⟨q⟩ ⟨r⟩ = r := by cases w <;> rfl
theorem z00 {b w : Bool} {p q r : Prop} (hp : b = w → p) (hq : b = (!w) → q) : @z4g (.bool b) w ⟨p⟩ ⟨q⟩ ⟨r⟩ := zjb hp hq
theorem z26 {p q : Prop} : @zm6 (.bool true) ⟨p⟩ ⟨q⟩ = p := by simp [zm6, zm4]
theorem z27 {p q : Prop} : @zm6 (.bool false) ⟨p⟩ ⟨q⟩ = q := by simp [zm6, zm4]
theorem z01 {b : Bool} {p q : Prop} (hp : b = true → p) (hq : b = false → q) : @zm6 (.bool b) ⟨p⟩ ⟨q⟩ := ⟨hp, hq⟩
end
theorem zcr {P : Program} {env : Env} {H : z02} : ∀ {res : List ARes} {K K' : List AV → Prop}, (∀ xs, K xs → K' xs) → resK P res env H K → resK P res env H K'
 | [], _, _, hk, h => hk _ h
 | .slot t :: l, _, _, hk, h => zcr (res := l) (fun xs hh => hk _ hh) h
 | .cell t a s :: l, _, _, hk, h => still_mono (k := .load a s) rfl (fun x _ hh => zcr (res := l) (fun xs hh => hk _ hh) hh) h
theorem zye {P : Program} {res : List ARes} {K K' : AV → z02 → Prop} (hk : ∀ z H, K z H → K' z H) {x : Ex} {env : Env} {H : z02} (h : Ret P res K x env H) : Ret P res K' x env H := ⟨h.1, zcr (fun xs hh => hk _ _ hh) h.2⟩
def nx (x : AV) (H : z02) [K : HK] : Prop := K.f x H
theorem y2x (x : AV) (H : z02) (f : AV → z02 → Prop) : @nx x H ⟨f⟩ = f x H := (rfl)
class HF (α : Type) where
 f : α → Prop
def optN {α : Type} (o : Option α) [F : HF α] : Prop := optK o F.f
theorem zto {α : Type} (x : α) (f : α → Prop) : @optN α (some x) ⟨f⟩ = f x := (rfl)
def ifN (c : Bool) [p : HP] [q : HP] : Prop := match c with
 | false => p.p
 | true => q.p
theorem zyf {p q : Prop} : @ifN true ⟨p⟩ ⟨q⟩ = q := (rfl)
theorem ztp {p q : Prop} : @ifN false ⟨p⟩ ⟨q⟩ = p := (rfl)
def appN (w bytes : Nat) (s : AV) (news : List AV) (H : z02) [K : HK] : Prop := z8l w bytes s news H K.f
def slcN (w : Nat) (x : AV) (lo hi mx : Option Int) (H : z02) [K : HK] : Prop := z4v w x lo hi mx H fun y => K.f y H
def nq (x : AV) [K : HQ] : Prop := K.f x
theorem y2y (x : AV) (f : AV → Prop) : @nq x ⟨f⟩ = f x := (rfl)
section
variable {P : Program} {H : z02} {K : AV → z02 → Prop} {k : IntKind} {a b c : Int} {x y z : AV} {xs ys cs : List AV} {w s o i g v off len n : Nat} {p q r : Bool}
theorem K_mv : @opK P .mv H [x] ⟨K⟩ = @nx x H ⟨K⟩ := (rfl)
theorem y73 : @opK P .pick H [.bool p, x, y] ⟨K⟩ = @nx (bif p then x else y) H ⟨K⟩ := (rfl)
theorem y2z : @opK P (.alloc z w) H [] ⟨K⟩ = @nx (.ptr H.n 1 0 0) (H.push ⟨w, 1, true, [z]⟩) ⟨K⟩ := (rfl)
theorem K_box : @opK P .box H [x] ⟨K⟩ = (z4u x.cells = true ∧ 0 < x.cells.length ∧ @nx (.ptr H.n 1 0 0) (H.push ⟨x.cells.length, 1, true, [x]⟩) ⟨K⟩) := (rfl)
theorem y30 {zs : List AV} {pl : List (Nat × Nat)} {idx : List Nat} : @opK P (.build zs pl idx) H xs ⟨K⟩ = @optN _ (zh2 pl idx xs zs) ⟨fun cs => @nx (.agg cs) H ⟨K⟩⟩ := (rfl)
theorem zyg {idx : List Nat} : @opK P (.bslice w len z idx) H xs ⟨K⟩ = (z61 w len idx xs ∧ @nx (.ref H.n 1 0 len) (H.push ⟨w, 1, true, z3n idx xs (List.replicate len z)⟩) ⟨K⟩) := (rfl)
theorem zyh : @opK P (.load p s) H [.cptr x] ⟨K⟩ = (x.isAny = false ∧ x.cells.length = s ∧ (p = false → s = 1) ∧ @nx (z1t p 0 s x) H ⟨K⟩) := (rfl)
theorem zyi : @opK P (.load p s) H [.ptr g v i o] ⟨K⟩ = ((H.at_ g).ver = v ∧ i < (H.at_ g).xs.length ∧ ((H.at_ g).xs.getD i .any).isAny = false ∧ ((H.at_ g).xs.getD i .any).cells.length = (H.at_ g).w ∧ 0 < s ∧ o + s ≤ (H.at_ g).w ∧
     (p = false → s = 1) ∧ @nx (z1t p o s ((H.at_ g).xs.getD i .any)) H ⟨K⟩) := (rfl)
theorem y31 : @opK P (.store s) H [.ptr g v i o, x] ⟨K⟩ = ((H.at_ g).ver = v ∧ i < (H.at_ g).xs.length ∧ 0 < s ∧ o + s ≤ (H.at_ g).w ∧ x.cells.length = s ∧ z4u x.cells = true ∧
     (s = (H.at_ g).w ∨ ((H.at_ g).xs.getD i .any).isAny = false ∧ ((H.at_ g).xs.getD i .any).cells.length = (H.at_ g).w) ∧
     @nx .any (H.set g ⟨(H.at_ g).w, v, (H.at_ g).exact, (H.at_ g).xs.set i (z8k (H.at_ g).w o s ((H.at_ g).xs.getD i .any) x)⟩) ⟨K⟩) := (rfl)
theorem y74 : @opK P .nilCheck H [.cptr x] ⟨K⟩ = @nx (.cptr x) H ⟨K⟩ := (rfl)
theorem y75 : @opK P .nilCheck H [.ptr g v i o] ⟨K⟩ = @nx (.ptr g v i o) H ⟨K⟩ := (rfl)
theorem y76 {f : Nat} : @opK P .nilCheck H [.fn f xs] ⟨K⟩ = @nx (.fn f xs) H ⟨K⟩ := (rfl)
theorem K_add : @opK P (.bin .add) H [.int k a, .int k b] ⟨K⟩ = @nx (.int k (k.wrap (a + b))) H ⟨K⟩ := by simp [opK, z05, binI, nx]
theorem K_sub : @opK P (.bin .sub) H [.int k a, .int k b] ⟨K⟩ = @nx (.int k (k.wrap (a - b))) H ⟨K⟩ := by simp [opK, z05, binI, nx]
theorem K_mul : @opK P (.bin .mul) H [.int k a, .int k b] ⟨K⟩ = @nx (.int k (k.wrap (a * b))) H ⟨K⟩ := by simp [opK, z05, binI, nx]
theorem K_quo : @opK P (.bin .quo) H [.int k a, .int k b] ⟨K⟩ = (b ≠ 0 ∧ @nx (.int k (k.wrap (a.tdiv b))) H ⟨K⟩) := by simp [opK, z05, binI, nx]
theorem K_rem : @opK P (.bin .rem) H [.int k a, .int k b] ⟨K⟩ = (b ≠ 0 ∧ @nx (.int k (a.tmod b)) H ⟨K⟩) := by simp [opK, z05, binI, nx]
theorem K_and : @opK P (.bin .and) H [.int k a, .int k b] ⟨K⟩ = @nx (.int k (z8a .and k a b)) H ⟨K⟩ := by simp [opK, z05, binI, nx]
theorem K_or : @opK P (.bin .or) H [.int k a, .int k b] ⟨K⟩ = @nx (.int k (z8a .or k a b)) H ⟨K⟩ := by simp [opK, z05, binI, nx]
theorem K_xor : @opK P (.bin .xor) H [.int k a, .int k b] ⟨K⟩ = @nx (.int k (z8a .xor k a b)) H ⟨K⟩ := by simp [opK, z05, binI, nx]
theorem zyj : @opK P (.bin .andNot) H [.int k a, .int k b] ⟨K⟩ = @nx (.int k (z8a .andNot k a b)) H ⟨K⟩ := by simp [opK, z05, binI, nx]
theorem K_shl {k' : IntKind} : @opK P (.bin .shl) H [.int k a, .int k' b] ⟨K⟩ = (0 ≤ b ∧ @nx (.int k (k.wrap (a * 2 ^ (Min.min b.toNat k.bits)))) H ⟨K⟩) := (rfl)
theorem K_shr {k' : IntKind} : @opK P (.bin .shr) H [.int k a, .int k' b] ⟨K⟩ = (0 ≤ b ∧ @nx (.int k (a.fdiv (2 ^ (Min.min b.toNat k.bits)))) H ⟨K⟩) := (rfl)
theorem K_eql : @opK P (.bin .eql) H [.int k a, .int k b] ⟨K⟩ = @nx (.bool (decide (a = b))) H ⟨K⟩ := by simp [opK, z05, binI, nx]
theorem K_neq : @opK P (.bin .neq) H [.int k a, .int k b] ⟨K⟩ = @nx (.bool (!decide (a = b))) H ⟨K⟩ := by simp [opK, z05, binI, nx]
theorem K_lss : @opK P (.bin .lss) H [.int k a, .int k b] ⟨K⟩ = @nx (.bool (decide (a < b))) H ⟨K⟩ := by simp [opK, z05, binI, nx]
theorem K_leq : @opK P (.bin .leq) H [.int k a, .int k b] ⟨K⟩ = @nx (.bool (decide (a ≤ b))) H ⟨K⟩ := by simp [opK, z05, binI, nx]
theorem K_gtr : @opK P (.bin .gtr) H [.int k a, .int k b] ⟨K⟩ = @nx (.bool (decide (b < a))) H ⟨K⟩ := by simp [opK, z05, binI, nx]
theorem K_geq : @opK P (.bin .geq) H [.int k a, .int k b] ⟨K⟩ = @nx (.bool (decide (b ≤ a))) H ⟨K⟩ := by simp [opK, z05, binI, nx]
theorem y77 {s t : List UInt8} : @opK P (.bin .eql) H [.str s, .str t] ⟨K⟩ = @nx (.bool (decide (s = t))) H ⟨K⟩ := (rfl)
theorem y78 {s t : List UInt8} : @opK P (.bin .neq) H [.str s, .str t] ⟨K⟩ = @nx (.bool (!decide (s = t))) H ⟨K⟩ := (rfl)
theorem K_eqb : @opK P (.eqb p) H [.bool q, .bool r] ⟨K⟩ = @nx (.bool (if p then !(q == r) else q == r)) H ⟨K⟩ := (rfl)
theorem K_eqs {ks : List Nat} : @opK P (.eqs p ks) H [.agg xs, .agg ys] ⟨K⟩ = @optN _ (eqL ks xs ys) ⟨fun b => @nx (.bool (if p then !b else b)) H ⟨K⟩⟩ := (rfl)
theorem ztq : @opK P (.eqn p) H [.nilS, .nilS] ⟨K⟩ = @nx (.bool (!p)) H ⟨K⟩ := (rfl)
theorem ztr : @opK P (.eqn p) H [.lst w xs, .nilS] ⟨K⟩ = (xs ≠ [] ∧ @nx (.bool p) H ⟨K⟩) := (rfl)
theorem zts : @opK P (.eqn p) H [.ref g v off len, .nilS] ⟨K⟩ = (0 < len ∧ @nx (.bool p) H ⟨K⟩) := (rfl)
theorem K_not : @opK P (.un .not) H [.bool p] ⟨K⟩ = @nx (.bool (!p)) H ⟨K⟩ := (rfl)
theorem K_neg : @opK P (.un .neg) H [.int k a] ⟨K⟩ = @nx (.int k (k.wrap (0 - a))) H ⟨K⟩ := (rfl)
theorem y79 {k' : IntKind} : @opK P (.conv k) H [.int k' a] ⟨K⟩ = @nx (.int k (k.wrap a)) H ⟨K⟩ := (rfl)
theorem y32 : @opK P .toStr H [x] ⟨K⟩ = (z5s H 1 x ∧ (match x with | .str _ => False | _ => True) ∧ ∃ bs : List UInt8, z5r H x = some (bs.map fun b => .int .u8 b.toNat) ∧ @nx (.str bs) H ⟨K⟩) := (rfl)
theorem y33 {lo hi mx : Bool} : @opK P (.slice w lo hi mx) H (x :: xs) ⟨K⟩ = @optN _ (optA lo xs) ⟨fun p => @optN _ (optA hi p.2) ⟨fun q => @optN _ (optA mx q.2) ⟨fun r => r.2 = [] ∧ @slcN w x p.1 q.1 r.1 H ⟨K⟩⟩⟩⟩ := (rfl)
theorem ztt : @opK P (.faddr p off s) H [.cptr x] ⟨K⟩ = (x.isAny = false ∧ off + s ≤ x.cells.length ∧ (p = false → s = 1) ∧ 0 < s ∧ @nx (.cptr (z1t p off s x)) H ⟨K⟩) := (rfl)
theorem ztu : @opK P (.faddr p off s) H [.ptr g v i o] ⟨K⟩ = ((H.at_ g).ver = v ∧ @nx (.ptr g v i (o + off)) H ⟨K⟩) := (rfl)
theorem y34 : @opK P (.field p off s) H [.agg cs] ⟨K⟩ = (off + s ≤ cs.length ∧ (p = false → s = 1) ∧ @nx (z1t p off s (.agg cs)) H ⟨K⟩) := (rfl)
theorem ztv {w' : Nat} : @opK P (.iaddr w) H [.lst w' xs, .int k a] ⟨K⟩ = (w' = w ∧ 0 ≤ a ∧ a < xs.length ∧ @nx (.cptr (xs.getD a.toNat .any)) H ⟨K⟩) := (rfl)
theorem ztw : @opK P (.iaddr w) H [.ref g v off len, .int k a] ⟨K⟩ = ((H.at_ g).ver = v ∧ (H.at_ g).w = w ∧ 0 ≤ a ∧ a < len ∧ @nx (.ptr g v (off + a.toNat) 0) H ⟨K⟩) := (rfl)
theorem zqt : @opK P (.iaddrA n w p) H [.ptr g v i o, .int k a] ⟨K⟩ = ((H.at_ g).ver = v ∧ 0 ≤ a ∧ a < n ∧ @nx (.ptr g v i (o + a.toNat * w)) H ⟨K⟩) := (rfl)
theorem zqu : @opK P (.iaddrA n w p) H [.cptr x, .int k a] ⟨K⟩ = (x.isAny = false ∧ 0 ≤ a ∧ a < n ∧ n * w ≤ x.cells.length ∧ (p = false → w = 1) ∧ 0 < w ∧ @nx (.cptr (z1t p (a.toNat * w) w x)) H ⟨K⟩) := (rfl)
theorem y35 : @opK P (.index n w p) H [.agg cs, .int k a] ⟨K⟩ = (0 ≤ a ∧ a < n ∧ n * w ≤ cs.length ∧ (p = false → w = 1) ∧ @nx (z1t p (a.toNat * w) w (.agg cs)) H ⟨K⟩) := (rfl)
theorem zqv {s : List UInt8} : @opK P .indexStr H [.str s, .int k a] ⟨K⟩ = (0 ≤ a ∧ a < s.length ∧ @nx (.int .u8 (s.getD a.toNat 0).toNat) H ⟨K⟩) := (rfl)
theorem ztx : @opK P (.extract i) H [.tup xs] ⟨K⟩ = (i < xs.length ∧ @nx (xs.getD i .any) H ⟨K⟩) := (rfl)
theorem zty : @opK P (.len false) H [.nilS] ⟨K⟩ = @nx (.int .i64 0) H ⟨K⟩ := (rfl)
theorem ztz : @opK P (.len false) H [.nul] ⟨K⟩ = @nx (.int .i64 0) H ⟨K⟩ := (rfl)
theorem zu0 : @opK P (.len false) H [.lst w xs] ⟨K⟩ = @nx (.int .i64 xs.length) H ⟨K⟩ := (rfl)
theorem zu1 : @opK P (.len false) H [.ref g v off len] ⟨K⟩ = @nx (.int .i64 len) H ⟨K⟩ := (rfl)
theorem zu2 {s : List UInt8} : @opK P (.len true) H [.str s] ⟨K⟩ = @nx (.int .i64 s.length) H ⟨K⟩ := (rfl)
theorem K_app : @opK P (.app w n z) H [x, y] ⟨K⟩ = (z5s H w y ∧ @optN _ (z5r H y) ⟨fun news => @appN w n x news H ⟨K⟩⟩) := (rfl)
theorem zyk : @appN w n .nilS xs H ⟨K⟩ = (xs.length * n ≤ 140737488355328 ∧ @nx (.ref H.n 1 0 xs.length) (H.push ⟨w, 1, xs.isEmpty, xs⟩) ⟨K⟩) := (rfl)
theorem y36 : @appN w n .nul xs H ⟨K⟩ = (xs.length * n ≤ 140737488355328 ∧ @nx (.ref H.n 1 0 xs.length) (H.push ⟨w, 1, xs.isEmpty, xs⟩) ⟨K⟩) := (rfl)
theorem y37 : @appN w n (.ref g v off len) xs H ⟨K⟩ = ((H.at_ g).ver = v ∧ (H.at_ g).w = w ∧ (len + xs.length) * n ≤ 140737488355328 ∧ off + len ≤ (H.at_ g).xs.length ∧ @ifN (!(H.at_ g).exact || (H.at_ g).xs.isEmpty)
    ⟨(off + len + xs.length ≤ (H.at_ g).xs.length → @nx (.ref g v off (len + xs.length)) (H.set g ⟨w, v, true, (H.at_ g).xs.take (off + len) ++ xs ++ (H.at_ g).xs.drop (off + len + xs.length)⟩) ⟨K⟩) ∧
      ((H.at_ g).xs.length < off + len + xs.length → @nx (.ref H.n 1 0 (len + xs.length)) (H.push ⟨w, 1, false, ((H.at_ g).xs.drop off).take len ++ xs⟩) ⟨K⟩)⟩
    ⟨(off = 0 ∨ off + len = (H.at_ g).xs.length) ∧ (off + len = (H.at_ g).xs.length → @nx (.ref g (v + 1) off (len + xs.length)) (H.set g ⟨w, v + 1, (H.at_ g).exact && xs.isEmpty, (H.at_ g).xs ++ xs⟩) ⟨K⟩) ∧
      (off + len < (H.at_ g).xs.length → off + len + xs.length ≤ (H.at_ g).xs.length ∧ @nx (.ref g v off (len + xs.length)) (H.set g ⟨w, v, (H.at_ g).exact, (H.at_ g).xs.take (off + len) ++ xs ++ (H.at_ g).xs.drop (off + len + xs.length)⟩) ⟨K⟩) ∧
      (off ≠ 0 → @nx (.ref g (v + 1) 0 (len + xs.length)) (H.set g ⟨w, v + 1, (H.at_ g).exact && xs.isEmpty, (H.at_ g).xs.drop off ++ xs⟩) ⟨K⟩)⟩) := by
 simp only [appN, z8l, ifN]
 generalize (!(H.at_ g).exact || (H.at_ g).xs.isEmpty) = c
 cases c <;> rfl
theorem y38 {w' : Nat} {lo hi : Option Int} : @slcN w (.lst w' xs) lo hi none H ⟨K⟩ = (w' = w ∧ 0 ≤ lo.getD 0 ∧ lo.getD 0 ≤ hi.getD xs.length ∧ hi.getD xs.length ≤ xs.length ∧ @nx (.lst w' ((xs.take (hi.getD xs.length).toNat).drop (lo.getD 0).toNat)) H ⟨K⟩) := (rfl)
theorem y39 {lo hi : Option Int} : @slcN w .nilS lo hi none H ⟨K⟩ = ((lo = none ∨ lo = some 0) ∧ (hi = none ∨ hi = some 0) ∧ @nx .nilS H ⟨K⟩) := (rfl)
theorem y3a {lo hi : Option Int} : @slcN w (.ref g v off len) lo hi none H ⟨K⟩ = ((H.at_ g).ver = v ∧ (H.at_ g).w = w ∧ 0 < w ∧ 0 ≤ lo.getD 0 ∧ lo.getD 0 ≤ hi.getD len ∧ (hi.getD len ≤ len ∨ (H.at_ g).exact = true ∧ off + hi.getD len ≤ (H.at_ g).xs.length) ∧
     @nx (.ref g v (off + (lo.getD 0).toNat) ((hi.getD len).toNat - (lo.getD 0).toNat)) H ⟨K⟩) := (rfl)
theorem zyl {w' : Nat} {lo hi : Option Int} {m : Int} : @slcN w (.lst w' xs) lo hi (some m) H ⟨K⟩ = (m = 0 ∧ hi = some 0 ∧ (lo = none ∨ lo = some 0) ∧ @nx .nul H ⟨K⟩) := (rfl)
theorem zym {lo hi : Option Int} {m : Int} : @slcN w .nilS lo hi (some m) H ⟨K⟩ = (m = 0 ∧ hi = some 0 ∧ (lo = none ∨ lo = some 0) ∧ @nx .nilS H ⟨K⟩) := (rfl)
theorem zyn {lo hi : Option Int} {m : Int} : @slcN w .nul lo hi (some m) H ⟨K⟩ = (m = 0 ∧ hi = some 0 ∧ (lo = none ∨ lo = some 0) ∧ @nx .nul H ⟨K⟩) := (rfl)
theorem zyo {lo hi : Option Int} {m : Int} : @slcN w (.ref g v off len) lo hi (some m) H ⟨K⟩ = (m = 0 ∧ hi = some 0 ∧ (lo = none ∨ lo = some 0) ∧ @nx .nul H ⟨K⟩) := (rfl)
theorem K_max : @opK P .max H [.int k a, .int k b] ⟨K⟩ = @nx (.int k (Max.max a b)) H ⟨K⟩ := by simp [opK, z05, nx]
theorem K_min : @opK P .min H [.int k a, .int k b] ⟨K⟩ = @nx (.int k (Min.min a b)) H ⟨K⟩ := by simp [opK, z05, nx]
theorem zu3 {k' : IntKind} : @opK P (.mkSlice w n z) H [.int k a, .int k' b] ⟨K⟩ = (0 ≤ a ∧ a ≤ b ∧ b * n ≤ 140737488355328 ∧ @nx (.ref H.n 1 0 a.toNat) (H.push ⟨w, 1, true, List.replicate b.toNat z⟩) ⟨K⟩) := (rfl)
theorem zyp {f : Nat} : @opK P (.mkFunc f) H xs ⟨K⟩ = @nx (.fn f xs) H ⟨K⟩ := (rfl)
theorem y3b : @opK P .mkMap H [] ⟨K⟩ = @nx (.map H.n 1) (H.push ⟨0, 1, true, []⟩) ⟨K⟩ := (rfl)
theorem zyq : @opK P (.mapGet z) H [.map g v, .int k a] ⟨K⟩ = (k = .i64 ∧ (H.at_ g).ver = v ∧ (H.at_ g).w = 0 ∧ (H.at_ g).exact = true ∧ @optN _ (z1u z a (H.at_ g).xs) ⟨fun y => @nx y H ⟨K⟩⟩) := (rfl)
theorem zyr : @opK P .mapSet H [.map g v, .int k a, x] ⟨K⟩ = (k = .i64 ∧ (H.at_ g).ver = v ∧ (H.at_ g).w = 0 ∧ (H.at_ g).exact = true ∧ @optN _ (setM a x (H.at_ g).xs) ⟨fun ys => @nx .any (H.set g ⟨0, v, true, ys⟩) ⟨K⟩⟩) := (rfl)
theorem zqw : @opK P (.len false) H [.full w xs] ⟨K⟩ = @nx (.int .i64 xs.length) H ⟨K⟩ := (rfl)
theorem zu4 {w' : Nat} : @opK P (.iaddr w) H [.full w' xs, .int k a] ⟨K⟩ = (w' = w ∧ 0 ≤ a ∧ a < xs.length ∧ @nx (.cptr (xs.getD a.toNat .any)) H ⟨K⟩) := (rfl)
theorem zqx : @opK P (.eqn p) H [.full w xs, .nilS] ⟨K⟩ = (xs ≠ [] ∧ @nx (.bool p) H ⟨K⟩) := (rfl)
theorem zys {w' : Nat} {lo hi : Option Int} : @slcN w (.full w' xs) lo hi none H ⟨K⟩ = (w' = w ∧ 0 ≤ lo.getD 0 ∧ lo.getD 0 ≤ hi.getD xs.length ∧ hi.getD xs.length ≤ xs.length ∧ @nx (.lst w' ((xs.take (hi.getD xs.length).toNat).drop (lo.getD 0).toNat)) H ⟨K⟩) := (rfl)
theorem zu5 {w' : Nat} {lo hi : Option Int} {m : Int} : @slcN w (.full w' xs) lo hi (some m) H ⟨K⟩ = (m = 0 ∧ hi = some 0 ∧ (lo = none ∨ lo = some 0) ∧ @nx .nul H ⟨K⟩) := (rfl)
theorem zyt {w' : Nat} : @appN w n (.full w' xs) ys H ⟨K⟩ = (w' = w ∧ 0 < ys.length ∧ (xs.length + ys.length) * n ≤ 140737488355328 ∧ @nx (.ref H.n 1 0 (xs.length + ys.length)) (H.push ⟨w, 1, false, xs ++ ys⟩) ⟨K⟩) := (rfl)
theorem zu6 : z1u z a [] = some z := rfl
theorem zqy : z1u z a (.int .i64 b :: y :: xs) = if b = a then some y else z1u z a xs := rfl
theorem zyu : setM a x [] = some [.int .i64 a, x] := rfl
theorem zu7 : setM a x (.int .i64 b :: y :: xs) = if b = a then some (.int .i64 b :: x :: xs) else (setM a x xs).map fun r' => .int .i64 b :: y :: r' := rfl
theorem y7a {f : Nat} : @opK P .call H (.fn f cs :: xs) ⟨K⟩ = @zm5 P f (xs ++ cs) H ⟨K⟩ := (rfl)
end
section
variable {P : Program} {H : z02} {K : AV → Prop} {xs cs : List AV} {z : AV} {w len : Nat}
theorem z2e {k : AK} (h : k.still = true) : @opQ P k H xs ⟨K⟩ = @opK P k H xs ⟨fun x _ => K x⟩ := by
 cases k <;> first | (exact propext ⟨fun h => h.2, fun h => ⟨rfl, h⟩⟩) | (simp [AK.still] at h)
theorem Q_mv  : @opQ P .mv H xs ⟨K⟩ = @opK P .mv H xs ⟨fun x _ => K x⟩ := z2e rfl
theorem y7b  : @opQ P .pick H xs ⟨K⟩ = @opK P .pick H xs ⟨fun x _ => K x⟩ := z2e rfl
theorem y3c {zs : List AV} {pl : List (Nat × Nat)} {idx : List Nat} : @opQ P (.build zs pl idx) H xs ⟨K⟩ = @opK P (.build zs pl idx) H xs ⟨fun x _ => K x⟩ := z2e rfl
theorem y7c {a : Bool} {s : Nat} : @opQ P (.load a s) H xs ⟨K⟩ = @opK P (.load a s) H xs ⟨fun x _ => K x⟩ := z2e rfl
theorem zqz  : @opQ P .nilCheck H xs ⟨K⟩ = @opK P .nilCheck H xs ⟨fun x _ => K x⟩ := z2e rfl
theorem Q_bin {op : BinOp} : @opQ P (.bin op) H xs ⟨K⟩ = @opK P (.bin op) H xs ⟨fun x _ => K x⟩ := z2e rfl
theorem Q_eqb {n : Bool} : @opQ P (.eqb n) H xs ⟨K⟩ = @opK P (.eqb n) H xs ⟨fun x _ => K x⟩ := z2e rfl
theorem Q_eqs {n : Bool} {ks : List Nat} : @opQ P (.eqs n ks) H xs ⟨K⟩ = @opK P (.eqs n ks) H xs ⟨fun x _ => K x⟩ := z2e rfl
theorem Q_eqn {n : Bool} : @opQ P (.eqn n) H xs ⟨K⟩ = @opK P (.eqn n) H xs ⟨fun x _ => K x⟩ := z2e rfl
theorem Q_un {op : UnOp} : @opQ P (.un op) H xs ⟨K⟩ = @opK P (.un op) H xs ⟨fun x _ => K x⟩ := z2e rfl
theorem y7d {k : IntKind} : @opQ P (.conv k) H xs ⟨K⟩ = @opK P (.conv k) H xs ⟨fun x _ => K x⟩ := z2e rfl
theorem y3d {w : Nat} {lo hi mx : Bool} : @opQ P (.slice w lo hi mx) H xs ⟨K⟩ = @opK P (.slice w lo hi mx) H xs ⟨fun x _ => K x⟩ := z2e rfl
theorem y3e {a : Bool} {o s : Nat} : @opQ P (.faddr a o s) H xs ⟨K⟩ = @opK P (.faddr a o s) H xs ⟨fun x _ => K x⟩ := z2e rfl
theorem y3f {a : Bool} {o s : Nat} : @opQ P (.field a o s) H xs ⟨K⟩ = @opK P (.field a o s) H xs ⟨fun x _ => K x⟩ := z2e rfl
theorem y3g {w : Nat} : @opQ P (.iaddr w) H xs ⟨K⟩ = @opK P (.iaddr w) H xs ⟨fun x _ => K x⟩ := z2e rfl
theorem zyv {n w : Nat} {a : Bool} : @opQ P (.iaddrA n w a) H xs ⟨K⟩ = @opK P (.iaddrA n w a) H xs ⟨fun x _ => K x⟩ := z2e rfl
theorem y3h {n w : Nat} {a : Bool} : @opQ P (.index n w a) H xs ⟨K⟩ = @opK P (.index n w a) H xs ⟨fun x _ => K x⟩ := z2e rfl
theorem zr0  : @opQ P .indexStr H xs ⟨K⟩ = @opK P .indexStr H xs ⟨fun x _ => K x⟩ := z2e rfl
theorem zu8 {i : Nat} : @opQ P (.extract i) H xs ⟨K⟩ = @opK P (.extract i) H xs ⟨fun x _ => K x⟩ := z2e rfl
theorem Q_len {b : Bool} : @opQ P (.len b) H xs ⟨K⟩ = @opK P (.len b) H xs ⟨fun x _ => K x⟩ := z2e rfl
theorem Q_max  : @opQ P .max H xs ⟨K⟩ = @opK P .max H xs ⟨fun x _ => K x⟩ := z2e rfl
theorem Q_min  : @opQ P .min H xs ⟨K⟩ = @opK P .min H xs ⟨fun x _ => K x⟩ := z2e rfl
theorem zyw : @opQ P (.mapGet z) H xs ⟨K⟩ = @opK P (.mapGet z) H xs ⟨fun x _ => K x⟩ := z2e rfl
theorem zyx {f : Nat} : @opQ P (.mkFunc f) H xs ⟨K⟩ = @opK P (.mkFunc f) H xs ⟨fun x _ => K x⟩ := z2e rfl
theorem y3i  : @opQ P .toStr H xs ⟨K⟩ = @opK P .toStr H xs ⟨fun x _ => K x⟩ := z2e rfl
theorem y3j {f : Nat} : @opQ P .call H (.fn f cs :: xs) ⟨K⟩ = @zyc P f (xs ++ cs) H ⟨K⟩ := (rfl)
theorem Q_bsl {idx : List Nat} : @opQ P (.bslice w len z idx) H xs ⟨K⟩ = (z61 w len idx xs ∧ 0 < w ∧ z0l (z3n idx xs (List.replicate len z)) = true ∧ @nq (.full w (z3n idx xs (List.replicate len z))) ⟨K⟩) := (rfl)
end
section
variable {H : z02} {G : Grp} {g j : Nat}
end
section
variable {P : Program} {H : z02} {env : Env} {K : List AV → Prop} {l : List ARes} {t s : Nat} {a : Bool}
theorem y3k : resK P [] env H K = K [] := (rfl)
theorem zyy : resK P (.slot t :: l) env H K = resK P l env H fun xs => K (env t :: xs) := (rfl)
theorem zyz : resK P (.cell t a s :: l) env H K = @opK P (.load a s) H [env t] ⟨fun x _ => resK P l env H fun xs => K (x :: xs)⟩ := (rfl)
end
theorem zjt {p : Prop} [Decidable p] (h : p) : true = decide p := (decide_eq_true h).symm
theorem zju {p : Prop} [Decidable p] (h : ¬p) : false = decide p := (decide_eq_false h).symm
theorem zai {p q : Prop} [Decidable p] [Decidable q] (h : p ↔ q) : decide p = decide q := decide_eq_decide.2 h
theorem getD_map {α : Type} [Inhabited α] (f : α → AV) (l : List α) (i : Nat) : (l.map f).getD i .any = if i < l.length then f (l.getD i default) else .any := by
 by_cases h : i < l.length <;> simp [List.getD, h]
def nth {α : Type} [Inhabited α] (l : List α) (i : Nat) : α := l.getD i default
theorem zu9 {α : Type} [Inhabited α] (f : α → AV) (l : List α) (i : Nat) (h : i < l.length) : (l.map f).getD i .any = f (nth l i) := by rw [getD_map, if_pos h]; rfl
theorem zz0 {α : Type} (f : α → AV) (l : List α) (i : Nat) : (l.map f).drop i = (l.drop i).map f := List.map_drop.symm
theorem zz1 {α : Type} (f : α → AV) (l : List α) (i : Nat) : (l.map f).take i = (l.take i).map f := List.map_take.symm
theorem z43 {α : Type} {f : α → AV} (h : ∀ x, (f x).pure = true) : ∀ l : List α, z0l (l.map f) = true
 | [] => rfl
 | x :: l => by simp [z0l, h x, z43 h l]
theorem z4h (k : IntKind) (l : List Int) : z0l (l.map (AV.int k)) = true := z43 (fun _ => rfl) l
theorem zua (k : IntKind) (l : List Int) : z0l (l.map fun x => AV.int k x) = true := z43 (fun _ => rfl) l
theorem zub (l : List Bool) : z0l (l.map AV.bool) = true := z43 (fun _ => rfl) l
attribute [push_cast] z34 z35 z36 y3b zyq zyr zqw zu4 zqx zys zu5 zyt zu6 zqy zyu zu7 zyw
attribute [push_cast] y2x y2y zto zyf ztp zyk y36 y37 y38 y39 y3a zyl zym zyn zyo K_mv y73 y2z K_box y30 zyg zyh zyi y31 y74 y75 y76 K_add K_sub K_mul K_quo K_rem K_and K_or K_xor zyj K_shl K_shr K_eql K_neq K_lss K_leq K_gtr K_geq y77 y78 K_eqb K_eqs ztq ztr zts K_not K_neg y79 y32 y33 ztt ztu y34 ztv ztw zqt zqu y35 zqv ztx zty ztz zu0 zu1 zu2 K_app K_max K_min zu3 zyp y7a Q_mv y7b y3c y7c zqz Q_bin Q_eqb Q_eqs Q_eqn Q_un y7d y3d y3e y3f y3g zyv y3h zr0 zu8 Q_len Q_max Q_min zyx y3i y3j Q_bsl
attribute [push_cast] z21 z22 z23 z24 z25 z26 z27 zy9
attribute [push_cast] z1t AV.cells AV.isAny z4u AV.one z8k eqL eq1 z5s z5r z61 z3n zh2 optA List.replicate z0l AV.pure Ret y3k zyy zyz resV zz0 zz1 z4h zua zub
def pos : List Nat → Nat → Option Nat
 | [], _ => none
 | k :: ks, g => if g = k then some 0 else (pos ks g).map (· + 1)
theorem zc7 : ∀ {ks : List Nat} {g j : Nat}, pos ks g = some j → j < ks.length ∧ ks.getD j 0 = g
 | [], g, j, h => by simp [pos] at h
 | k :: ks, g, j, h => by
   rw [pos] at h
   split at h
   · rename_i hk; cases h; exact ⟨by simp, by simp [hk]⟩
   · obtain ⟨i, hi, rfl⟩ := Option.map_eq_some_iff.1 h
     obtain ⟨h1, h2⟩ := zc7 hi
     exact ⟨by simp; omega, by simpa using h2⟩
theorem zhk : ∀ {ks : List Nat} {g : Nat}, pos ks g = none → g ∉ ks
 | [], g, _ => by simp
 | k :: ks, g, h => by
   rw [pos] at h
   split at h
   · cases h
   · rename_i hk
     have := zhk (Option.map_eq_none_iff.1 h)
     simp [hk, this]
def frzL (w : Nat) (ys : List AV) : AV := bif z0l ys then .lst w ys else .any
def frzP (y : AV) : AV := bif y.pure then .cptr y else .any
def rnV (b : Nat) (H : z02) (ks : List Nat) : Nat → AV → AV
 | 0, x => bif x.pure then x else .any
 | d + 1, .ref g v off len => if g < b then .ref g v off len else if v = (H.at_ g).ver then
     (match pos ks g with
      | some j => .ref (b + j) 1 off len
      | none => if 0 < (H.at_ g).w ∧ off + len ≤ (H.at_ g).xs.length then frzL (H.at_ g).w ((((H.at_ g).xs.drop off).take len).map (rnV b H ks d)) else .any)
     else .any
 | d + 1, .ptr g v i o => if g < b then .ptr g v i o else if v = (H.at_ g).ver then
     (match pos ks g with
      | some j => .ptr (b + j) 1 i o
      | none => if o = 0 ∧ i < (H.at_ g).xs.length ∧ 0 < (H.at_ g).w then frzP (rnV b H ks d ((H.at_ g).xs.getD i .any)) else .any)
     else .any
 | _ + 1, .map g v => if g < b then .map g v else if v = (H.at_ g).ver then (match pos ks g with | some j => .map (b + j) 1 | none => .any) else .any
 | d + 1, .agg cs => .agg (cs.map (rnV b H ks d))
 | d + 1, .tup cs => .tup (cs.map (rnV b H ks d))
 | d + 1, .fn f cs => .fn f (cs.map (rnV b H ks d))
 | _ + 1, x => x
def inv (b : Nat) (ks : List Nat) (j : Nat) : Nat := if j < b then j else ks.getD (j - b) 0
def MS.repack (S : MS) (b : Nat) (H : z02) (ks : List Nat) : MS where
 w := S.w
 im := fun c => S.im c ∨ ∃ g, g < H.n ∧ b ≤ g ∧ g ∉ ks ∧ 0 < (H.at_ g).w ∧ 0 < S.cap g ∧ c = S.place g
 keep := S.keep
 n := b + ks.length
 place := fun j => S.place (inv b ks j)
 cur := fun j => if j < b then S.cur j else 1
 cap := fun j => S.cap (inv b ks j)
 wid := fun j => S.wid (inv b ks j)
 base := S.base
def z02.repack (H : z02) (b : Nat) (ks : List Nat) (d : Nat) : z02 := ⟨b + ks.length, fun j => ⟨(H.at_ (inv b ks j)).w, if j < b then (H.at_ j).ver else 1, (H.at_ (inv b ks j)).exact, (H.at_ (inv b ks j)).xs.map (rnV b H ks d)⟩⟩
section
variable {S : MS} {H : z02} {b : Nat} {ks : List Nat}
theorem z4i {j : Nat} (h : j < b) : inv b ks j = j := if_pos h
theorem zm7 {j : Nat} : inv b ks (b + j) = ks.getD j 0 := by
 have h1 : b + j - b = j := by omega
 have h2 : ¬ b + j < b := by omega
 rw [inv, if_neg h2, h1]
theorem zhl {x : AV} {v : Value} (hx : x.pure = true) (h : VRel S x v) : VRel (S.repack b H ks) x v := VRel.of_pure (S := S) (S' := S.repack b H ks) rfl (fun _ hb => .inl hb) hx h
theorem zr1 (hS : SRel S H) : ∀ (d : Nat) {x : AV} {v : Value}, VRel S x v → VRel (S.repack b H ks) (rnV b H ks d x) v
 | 0, x, v, h => by
   rw [rnV]
   cases hp : x.pure
   · trivial
   · exact zhl hp h
 | d + 1, x, v, h => by
   have keyL : ∀ {cs : List AV} {vs : List Value}, z04 S cs vs → z04 (S.repack b H ks) (cs.map (rnV b H ks d)) vs := by
     intro cs
     induction cs with
     | nil => intro vs hh; exact hh
     | cons c cs ih =>
       intro vs hh
       obtain ⟨u, r, rfl, h1, h2⟩ := hh
       exact ⟨u, r, rfl, zr1 hS d h1, ih h2⟩
   cases x with
   | ref g vn off len =>
     obtain ⟨⟨a, c, rfl, ha⟩, hg, hvn, hcur⟩ := h
     have hG := hS.live_of hg
     rw [rnV]
     split
     · rename_i hgb
       refine ⟨⟨a, c, rfl, ha⟩, by show g < b + _; omega, by show vn ≤ if g < b then _ else _; rw [if_pos hgb]; exact hvn, fun he => ?_⟩
       have he' : (if g < b then S.cur g else 1) = vn := he
       rw [if_pos hgb] at he'
       show ∃ a cap', _ = Value.slice a len cap' ∧ ((a = some ⟨S.place (inv b ks g), off * S.wid (inv b ks g), none⟩ ∧ cap' = S.cap (inv b ks g) - off ∧ off + len ≤ S.cap (inv b ks g)) ∨ (len = 0 ∧ cap' = 0 ∧ S.cap (inv b ks g) ≤ off))
       rw [z4i hgb]
       exact hcur he'
     · split
       · rename_i hver
         have hh := hcur (by rw [hG.ver, hver])
         split
         · rename_i j hj
           obtain ⟨h1, h2⟩ := zc7 hj
           refine ⟨⟨a, c, rfl, ha⟩, by show b + j < b + _; omega, by show 1 ≤ if b + j < b then _ else 1; rw [if_neg (by omega)]; exact Nat.le_refl 1, fun _ => ?_⟩
           show ∃ a cap', _ = Value.slice a len cap' ∧ ((a = some ⟨S.place (inv b ks (b + j)), off * S.wid (inv b ks (b + j)), none⟩ ∧ cap' = S.cap (inv b ks (b + j)) - off ∧ off + len ≤ S.cap (inv b ks (b + j))) ∨ (len = 0 ∧ cap' = 0 ∧ S.cap (inv b ks (b + j)) ≤ off))
           rw [zm7, h2]
           exact hh
         · rename_i hb hj
           have hnk := zhk hj
           split
           · rename_i hw
             obtain ⟨hw, hol⟩ := hw
             unfold frzL
             cases hpu : z0l ((((H.at_ g).xs.drop off).take len).map (rnV b H ks d))
             · trivial
             · obtain ⟨a', cap', hv, hcase⟩ := hh
               obtain ⟨rfl, -, rfl⟩ : a = a' ∧ len = len ∧ c = cap' := by cases hv; exact ⟨rfl, rfl, rfl⟩
               have hl : ((((H.at_ g).xs.drop off).take len).map (rnV b H ks d)).length = len := by simp; omega
               show VRel _ (.lst _ _) _
               have hnone : a = none → c = 0 := fun hn => by
                 rcases hcase with ⟨rfl, _⟩ | ⟨_, hh, _⟩
                 · cases hn
                 · exact hh
               by_cases hc0 : S.cap g = 0
               · have hlen := hG.len hw
                 have hnil : ((H.at_ g).xs.drop off).take len = [] := List.eq_nil_of_length_eq_zero (by simp; omega)
                 simp only [hnil, List.map_nil] at hl ⊢
                 exact ⟨rfl, hw, a, c, [], by rw [← hl], ⟨Nat.zero_le _, hnone⟩, rfl, fun hne => absurd rfl hne⟩
               obtain ⟨⟨cells, TT, us, hb2, hcs, hus, hfl⟩, _⟩ := hG.live hw (by omega)
               refine ⟨hpu, hw, a, c, _, by rw [hl], ⟨?_, hnone⟩, keyL ((hus.drop off).take len), fun hne => ?_⟩
               · rw [hl]; rcases hcase with ⟨_, c2, c3⟩ | ⟨c1, c2, _⟩ <;> omega
               · rcases hcase with ⟨rfl, _, _⟩ | ⟨c1, _, _⟩
                 · refine ⟨_, _, rfl, .inr ⟨g, by rw [← hS.n]; exact hg, by omega, hnk, hw, by omega, rfl⟩, fun j u hu => ?_⟩
                   rw [List.getElem?_take] at hu
                   split at hu
                   · rw [List.getElem?_drop] at hu
                     have := hfl.row hb2 (off + j) u hu
                     rw [Nat.zero_add, Nat.add_mul] at this
                     rw [hG.wid]
                     exact this
                   · cases hu
                 · exact absurd (List.eq_nil_of_length_eq_zero (by rw [hl]; exact c1)) hne
           · trivial
       · trivial
   | ptr g vn i o =>
     obtain ⟨⟨a, rfl⟩, hg, hvn, hcur⟩ := h
     have hG := hS.live_of hg
     rw [rnV]
     split
     · rename_i hgb
       refine ⟨⟨a, rfl⟩, by show g < b + _; omega, by show vn ≤ if g < b then _ else _; rw [if_pos hgb]; exact hvn, fun he => ?_⟩
       have he' : (if g < b then S.cur g else 1) = vn := he
       rw [if_pos hgb] at he'
       show _ = Value.pointer (some ⟨S.place (inv b ks g), i * S.wid (inv b ks g) + o, none⟩)
       rw [z4i hgb]
       exact hcur he'
     · split
       · rename_i hver
         have hh := hcur (by rw [hG.ver, hver])
         split
         · rename_i j hj
           obtain ⟨h1, h2⟩ := zc7 hj
           refine ⟨⟨a, rfl⟩, by show b + j < b + _; omega, by show 1 ≤ if b + j < b then _ else 1; rw [if_neg (by omega)]; exact Nat.le_refl 1, fun _ => ?_⟩
           show _ = Value.pointer (some ⟨S.place (inv b ks (b + j)), i * S.wid (inv b ks (b + j)) + o, none⟩)
           rw [zm7, h2]
           exact hh
         · rename_i hb hj
           have hnk := zhk hj
           split
           · rename_i hc
             obtain ⟨rfl, hi, hw⟩ := hc
             unfold frzP
             cases hpu : (rnV b H ks d ((H.at_ g).xs.getD i .any)).pure
             · trivial
             · show VRel _ (.cptr _) _
               obtain ⟨u, hu, hl⟩ := hG.elem hw hi
               have k1 := zr1 hS d hu
               refine ⟨hpu, S.place g, i * (H.at_ g).w, u, ?_, .inr ⟨g, by rw [← hS.n]; exact hg, by omega, hnk, hw, by have := hG.len hw; omega, rfl⟩, k1, ?_⟩
               · rw [hh, hG.wid]; rfl
               · rw [hl.1]; exact hl
           · trivial
       · trivial
   | agg cs => obtain ⟨vs, rfl, hr⟩ := h; exact ⟨vs, rfl, keyL hr⟩
   | tup cs => obtain ⟨vs, rfl, hr⟩ := h; exact ⟨vs, rfl, keyL hr⟩
   | fn f cs => obtain ⟨vs, rfl, hr⟩ := h; exact ⟨vs, rfl, keyL hr⟩
   | full w xs => exact zhl h.1 h
   | map g vn =>
     obtain ⟨⟨a, rfl⟩, hg, hvn, hcur⟩ := h
     have hG := hS.live_of hg
     rw [rnV]
     split
     · rename_i hgb
       refine ⟨⟨a, rfl⟩, by show g < b + _; omega, by show vn ≤ if g < b then _ else _; rw [if_pos hgb]; exact hvn, fun he => ?_⟩
       have he' : (if g < b then S.cur g else 1) = vn := he
       rw [if_pos hgb] at he'
       show _ = Value.map (some (S.place (inv b ks g)))
       rw [z4i hgb]
       exact hcur he'
     · split
       · rename_i hver
         have hh := hcur (by rw [hG.ver, hver])
         split
         · rename_i j hj
           obtain ⟨h1, h2⟩ := zc7 hj
           refine ⟨⟨a, rfl⟩, by show b + j < b + _; omega, by show 1 ≤ if b + j < b then _ else 1; rw [if_neg (by omega)]; exact Nat.le_refl 1, fun _ => ?_⟩
           show _ = Value.map (some (S.place (inv b ks (b + j))))
           rw [zm7, h2]
           exact hh
         · trivial
       · trivial
   | lst w xs => exact zhl h.1 h
   | cptr x => exact zhl h.1 h
   | any => trivial
   | bool _ => exact h
   | int _ _ => exact h
   | str _ => exact h
   | nilS => exact h
   | nul => exact h
   | emp => exact h
   | nilP => exact h
   | nilF => exact h
   | yld l => exact h
theorem z7v (hS : SRel S H) (hb : b ≤ S.n) : BEvo b S (S.repack b H ks) where
 base := rfl
 os := rfl
 tape := rfl
 output := rfl
 size := Nat.le_refl _
 kept _ _ := rfl
 im _ h := .inl h
 keep _ h := h
 fresh c hc := by
   rcases hc with hc | ⟨g, hg, _, _, hw, hcap, rfl⟩
   · exact .inl hc
   · exact .inr fun hk => ((hS.grp g hg).live hw hcap).2 (.inr hk)
 n := Nat.le_add_right _ _
 cur g hg := by show _ ≤ if g < b then S.cur g else 1; rw [if_pos hg]; exact Nat.le_refl _
 same g hg _ := by
   show S.place (inv b ks g) = _ ∧ S.cap (inv b ks g) = _ ∧ S.wid (inv b ks g) = _
   rw [z4i hg]; exact ⟨rfl, rfl, rfl⟩
theorem zaj (d : Nat) (hS : SRel S H) (hb : b ≤ H.n) (hk : ∀ k ∈ ks, b ≤ k ∧ k < H.n) (hn : ks.Nodup) : SRel (S.repack b H ks) (H.repack b ks d) := by
 have keyL : ∀ {cs : List AV} {vs : List Value}, z04 S cs vs → z04 (S.repack b H ks) (cs.map (rnV b H ks d)) vs := by
   intro cs
   induction cs with
   | nil => intro vs hh; exact hh
   | cons c cs ih =>
     intro vs hh
     obtain ⟨u, r, rfl, h1, h2⟩ := hh
     exact ⟨u, r, rfl, zr1 hS d h1, ih h2⟩
 have hinv : ∀ j, j < b + ks.length → inv b ks j < H.n ∧ (j < b ∨ b ≤ inv b ks j ∧ inv b ks j ∈ ks) := by
   intro j hj
   by_cases hjb : j < b
   · rw [z4i hjb]; exact ⟨by omega, .inl hjb⟩
   · have h1 : j - b < ks.length := by omega
     have : inv b ks j = ks[j - b] := by simp [inv, hjb, List.getD, List.getElem?_eq_getElem h1]
     rw [this]
     have := hk _ (List.getElem_mem h1)
     exact ⟨this.2, .inr ⟨this.1, List.getElem_mem h1⟩⟩
 refine ⟨rfl, fun j hj => ?_, fun j j' hj hj' hne hw hw' => ?_, fun c hc => ?_⟩
 · obtain ⟨h1, h2⟩ := hinv j hj
   have hG := hS.grp _ h1
   have hni : (H.at_ (inv b ks j)).has (S.cap (inv b ks j)) → ¬ ((S.repack b H ks).im (S.place (inv b ks j)) ∨ (S.repack b H ks).keep (S.place (inv b ks j))) := fun hq => by
     have a5 := hG.has_ni hq
     rintro ((hi | ⟨g, hg, hbg, hnk, hw', hc', he⟩) | hi)
     · exact a5 (.inl hi)
     · have hne : inv b ks j ≠ g := by
         intro hh
         rcases h2 with h2 | h2
         · rw [z4i h2] at hh; omega
         · exact hnk (hh ▸ h2.2)
       exact hS.apart _ g h1 hg hne hq (.inl ⟨hw', hc'⟩) he
     · exact a5 (.inr hi)
   refine ⟨?_, hG.wid, fun hw hc => ?_, fun hw => ?_, fun hw he => ?_, fun hw he => ?_⟩
   · show (if j < b then S.cur j else 1) = if j < b then (H.at_ j).ver else 1
     split
     · rename_i hjb; rw [z4i hjb] at hG; exact hG.ver
     · rfl
   · obtain ⟨⟨cells, TT, us, a1, a2, a3, a4⟩, a5⟩ := hG.live hw hc
     exact ⟨⟨cells, TT, us, a1, a2, keyL a3, a4⟩, hni (.inl ⟨hw, hc⟩)⟩
   · show ((H.at_ (inv b ks j)).xs.map _).length ≤ _; rw [List.length_map]; exact hG.len hw
   · show ((H.at_ (inv b ks j)).xs.map _).length = _; rw [List.length_map]; exact hG.full hw he
   · obtain ⟨⟨es, clock, a1, a2⟩, a5⟩ := hG.mlive hw he
     exact ⟨⟨es, clock, a1, keyL a2⟩, hni (.inr ⟨hw, he⟩)⟩
 · obtain ⟨h1, h2⟩ := hinv j hj
   obtain ⟨h1', h2'⟩ := hinv j' hj'
   refine hS.apart _ _ h1 h1' ?_ hw hw'
   intro hh
   rcases h2 with h2 | ⟨h2, h3⟩ <;> rcases h2' with h2' | ⟨h2', h3'⟩
   · rw [z4i h2, z4i h2'] at hh; exact hne hh
   · rw [z4i h2] at hh; omega
   · rw [z4i h2'] at hh; omega
   · have hjb : ¬ j < b := fun h => by rw [z4i h] at h2; omega
     have hjb' : ¬ j' < b := fun h => by rw [z4i h] at h2'; omega
     have e1 : j - b < ks.length := by have : j < b + ks.length := hj; omega
     have e2 : j' - b < ks.length := by have : j' < b + ks.length := hj'; omega
     have f1 : inv b ks j = ks[j - b] := by simp [inv, hjb, List.getD, List.getElem?_eq_getElem e1]
     have f2 : inv b ks j' = ks[j' - b] := by simp [inv, hjb', List.getD, List.getElem?_eq_getElem e2]
     rw [f1, f2] at hh
     have := (List.getElem_inj hn).1 hh
     omega
 · rcases hc with (hc | ⟨g, hg, _, _, hw, hcap, rfl⟩) | hc
   · exact hS.im c (.inl hc)
   · exact (hS.grp g hg).lt hw hcap
   · exact hS.im c (.inr hc)
theorem zz2 {P : Program} {n : Nat} {c : AC} {env : Env} {Q : Ex → Env → z02 → Prop} (ks : List Nat) (d : Nat) (hb : b ≤ H.n) (hk : ∀ k ∈ ks, b ≤ k ∧ k < H.n) (hn : ks.Nodup)
   (h : T P n b c (fun i => rnV b H ks d (env i)) (H.repack b ks d) Q) : T P n b c env H Q := by
 intro rd mm hrd code hc S a hbS hS hF
 have hev := z7v (ks := ks) hS hbS
 refine wpIn_mono (h rd mm hrd code hc (S.repack b H ks) a (Nat.le_add_right _ _) (zaj d hS hb hk hn) ⟨hF.size, hF.defers.of hev.base hev.size hev.keep hev.fresh (fun b hb => hev.kept b (.inr hb)), fun j hj => zr1 hS d (hF.val j hj)⟩) fun e a w hh => hh.trans (z7v hS hbS)
end
theorem zuc : z02.nil = hl [] := by
 simp [z02.nil, hl]
theorem hl_n (l : List Grp) : (hl l).n = l.length := rfl
theorem SRel.congr {S : MS} {H H' : z02} (hn : H'.n = H.n) (h : ∀ g, g < H.n → H'.at_ g = H.at_ g) (hS : SRel S H) : SRel S H' :=
 ⟨hS.n.trans hn.symm, fun g hg => by rw [h g (by omega)]; exact hS.grp g (by omega), fun g g' hg hg' hne hw hw' => by
   rw [h g (by omega)] at hw
   rw [h g' (by omega)] at hw'
   exact hS.apart g g' (by omega) (by omega) hne hw hw', hS.im⟩
theorem z0z.congr {P : Program} {f : Nat} {xs : List AV} {H H' : z02} {K : AV → z02 → Prop} (hn : H'.n = H.n) (h : ∀ g, g < H.n → H'.at_ g = H.at_ g) (k : z0z P f xs H' K) : z0z P f xs H K :=
 ⟨k.1, fun S cargs hS hx => k.2 S cargs (hS.congr hn h) hx⟩
def z02.groups (H : z02) : List Grp := (List.range H.n).map H.at_
theorem zjv (l : List Grp) : (hl l).groups = l := by
 refine List.ext_getElem (by simp [z02.groups, hl]) fun i h1 h2 => ?_
 simp [z02.groups, hl, h2]
def z9c : Nat → List Nat → List Grp → List Grp
 | _, _, [] => []
 | i, ks, G :: l => (if i ∈ ks then G.dead else G) :: z9c (i + 1) ks l
theorem zjw : ∀ (i : Nat) (ks : List Nat) (l : List Grp), (z9c i ks l).length = l.length
 | _, _, [] => rfl
 | i, ks, G :: l => by simp [z9c, zjw (i + 1) ks l]
theorem zoo : ∀ (i : Nat) (ks : List Nat) (l : List Grp) (g : Nat), g < l.length → (z9c i ks l).getD g default = if i + g ∈ ks then (l.getD g default).dead else l.getD g default
 | _, _, [], g, h => by simp at h
 | i, ks, G :: l, 0, h => by simp [z9c]
 | i, ks, G :: l, g + 1, h => by
   have := zoo (i + 1) ks l g (by simpa using h)
   have e : i + 1 + g = i + (g + 1) := by omega
   rw [e] at this
   simpa [z9c] using this
theorem zfp {P : Program} {f : Nat} {xs : List AV} {l : List Grp} {K : AV → z02 → Prop} (d : Nat) (ks : List Nat) (hok : ∀ x ∈ xs, z2j d ((hl l).only ks) x) (h : z0z P f (xs.map (frzV d ((hl l).only ks))) (hl (z9c 0 ks l)) K) : z0z P f xs (hl l) K := by
 refine zhi d ks hok (z0z.congr (H' := hl (z9c 0 ks l)) (by simp [hl, z02.kill, zjw]) (fun g hg => ?_) h)
 show (z9c 0 ks l).getD g default = if g ∈ ks then (l.getD g default).dead else l.getD g default
 rw [zoo 0 ks l g hg, Nat.zero_add]
def leH (H : z02) (x y : AV) : Prop := ∀ S v, SRel S H → VRel S x v → VRel S y v
section
variable {H : z02}
theorem zud {l : List Grp} {g v len : Nat} (hv : (l.getD g default).ver = v) (hw : 0 < (l.getD g default).w) (hx : (l.getD g default).xs = []) (he : (l.getD g default).exact = true) (hg : g < l.length) (h0 : len = 0) : leH (hl l) .nilS (.ref g v 0 len) := fun S u hS hu => by
 subst h0
 have hG := hS.grp g hg
 rw [z2z] at hG
 have hf := hG.full hw he
 rw [hx] at hf
 have hc : S.cap g = 0 := hf.symm
 have hu' : u = .slice none 0 0 := hu
 subst hu'
 exact ⟨⟨none, 0, rfl, fun _ => rfl⟩, by rw [hS.n]; exact hg, by rw [hG.ver, hv]; exact Nat.le_refl _, fun _ => ⟨none, 0, rfl, .inr ⟨rfl, rfl, by rw [hc]; exact Nat.le_refl _⟩⟩⟩
end
mutual
def leS (l : List Grp) : AV → AV → Prop
 | .int k a, y => (match y with | .int k' b => k = k' ∧ a = b | .any => True | _ => False)
 | .bool a, y => (match y with | .bool b => a = b | .any => True | _ => False)
 | .nilS, y => (match y with
   | .nilS | .any => True
   | .lst w ys => 0 < w ∧ ys = []
   | .ref g v off len => off = 0 ∧ len = 0 ∧ (l.getD g default).ver = v ∧ 0 < (l.getD g default).w ∧ (l.getD g default).xs = [] ∧ (l.getD g default).exact = true ∧ g < l.length
   | _ => False)
 | .nul, y => (match y with | .nul | .any => True | .lst w ys => 0 < w ∧ ys = [] | _ => False)
 | .emp, y => (match y with | .emp | .any => True | .lst w ys => 0 < w ∧ ys = [] | _ => False)
 | .lst w xs, y => (match y with | .lst w' ys => w = w' ∧ xs = ys | .any => True | _ => False)
 | .full w xs, y => (match y with | .full w' ys => w = w' ∧ xs = ys | .lst w' ys => w = w' ∧ leSL l xs ys ∧ z0l ys = true | .any => True | _ => False)
 | .ref g v o n, y => (match y with | .ref g' v' o' n' => g = g' ∧ v = v' ∧ o = o' ∧ n = n' | .any => True | _ => False)
 | .ptr g v o n, y => (match y with | .ptr g' v' o' n' => g = g' ∧ v = v' ∧ o = o' ∧ n = n' | .any => True | _ => False)
 | .agg xs, y => (match y with | .agg ys => leSL l xs ys | .any => True | _ => False)
 | .tup xs, y => (match y with | .tup ys => leSL l xs ys | .any => True | _ => False)
 | x, y => (match y with | .any => True | y => x = y)
def leSL (l : List Grp) : List AV → List AV → Prop
 | [], ys => ys = []
 | x :: xs, ys => (match ys with | y :: ys => leS l x y ∧ leSL l xs ys | [] => False)
end
mutual
theorem zjx {S : MS} {l : List Grp} (hS : SRel S (hl l) ∨ l = []) : ∀ (x : AV) {y : AV} {v : Value}, leS l x y → VRel S x v → VRel S y v
 | .any, y, v, h, hv => by cases y <;> simp only [leS, reduceCtorEq] at h; trivial
 | .int k a, y, v, h, hv => by
   cases y <;> simp only [leS] at h
   · trivial
   · obtain ⟨rfl, rfl⟩ := h; exact hv
 | .bool a, y, v, h, hv => by
   cases y <;> simp only [leS] at h
   · trivial
   · subst h; exact hv
 | .str s, y, v, h, hv => by cases y <;> simp only [leS] at h <;> first | trivial | (cases h; done) | (cases h; exact hv)
 | .nilP, y, v, h, hv => by cases y <;> simp only [leS] at h <;> first | trivial | (cases h; done) | exact hv
 | .nilF, y, v, h, hv => by cases y <;> simp only [leS] at h <;> first | trivial | (cases h; done) | exact hv
 | .yld l, y, v, h, hv => by cases y <;> simp only [leS] at h <;> first | trivial | (cases h; done) | (cases h; exact hv)
 | .cptr x, y, v, h, hv => by cases y <;> simp only [leS] at h <;> first | trivial | (cases h; done) | (cases h; exact hv)
 | .fn f xs, y, v, h, hv => by cases y <;> simp only [leS] at h <;> first | trivial | (cases h; done) | (cases h; exact hv)
 | .nilS, y, v, h, hv => by
   cases y <;> simp only [leS] at h
   · trivial
   · exact hv
   · obtain ⟨h1, rfl⟩ := h; exact AV.le_nilS h1 S v hv
   · obtain ⟨rfl, rfl, h1, h2, h3, h4, h5⟩ := h
     rcases hS with hS | rfl
     · exact zud h1 h2 h3 h4 h5 rfl S v hS hv
     · exact absurd h5 (Nat.not_lt_zero _)
 | .nul, y, v, h, hv => by
   cases y <;> simp only [leS] at h
   · trivial
   · exact hv
   · obtain ⟨h1, rfl⟩ := h; exact AV.le_nul h1 S v hv
 | .emp, y, v, h, hv => by
   cases y <;> simp only [leS] at h
   · trivial
   · exact hv
   · obtain ⟨h1, rfl⟩ := h; exact AV.le_emp h1 S v hv
 | .lst w xs, y, v, h, hv => by
   cases y <;> simp only [leS] at h
   · trivial
   · obtain ⟨rfl, rfl⟩ := h; exact hv
 | .full w xs, y, v, h, hv => by
   cases y <;> simp only [leS] at h
   · trivial
   · rename_i w' ys
     obtain ⟨rfl, h1, hp⟩ := h
     obtain ⟨_, h0, a, cap, vs, hv, hc, hl, hr⟩ := z93 hv
     have hn := z04.length hl
     have hm := z8r hS xs h1 hl
     have hln : ys.length = xs.length := by rw [← z04.length hm, hn]
     exact ⟨hp, h0, a, cap, vs, by rw [hln]; exact hv, by rw [hln]; exact hc, hm, fun hne => hr fun h => hne (by rw [h] at hln; exact List.length_eq_zero_iff.1 hln)⟩
   · obtain ⟨rfl, rfl⟩ := h; exact hv
 | .map g a, y, v, h, hv => by cases y <;> simp only [leS] at h <;> first | trivial | (cases h; done) | (cases h; exact hv)
 | .ref g a o n, y, v, h, hv => by
   cases y <;> simp only [leS] at h
   · trivial
   · obtain ⟨rfl, rfl, rfl, rfl⟩ := h; exact hv
 | .ptr g a o n, y, v, h, hv => by
   cases y <;> simp only [leS] at h
   · trivial
   · obtain ⟨rfl, rfl, rfl, rfl⟩ := h; exact hv
 | .agg xs, y, v, h, hv => by
   cases y <;> simp only [leS] at h
   · trivial
   · obtain ⟨vs, rfl, hr⟩ := hv; exact ⟨vs, rfl, z8r hS xs h hr⟩
 | .tup xs, y, v, h, hv => by
   cases y <;> simp only [leS] at h
   · trivial
   · obtain ⟨vs, rfl, hr⟩ := hv; exact ⟨vs, rfl, z8r hS xs h hr⟩
theorem z8r {S : MS} {l : List Grp} (hS : SRel S (hl l) ∨ l = []) : ∀ (xs : List AV) {ys : List AV} {vs : List Value}, leSL l xs ys → z04 S xs vs → z04 S ys vs
 | [], ys, vs, h, hv => by rw [show ys = [] from h]; exact hv
 | x :: xs, [], vs, h, hv => h.elim
 | x :: xs, y :: ys, vs, h, hv => by
   obtain ⟨v, r, rfl, h1, h2⟩ := hv
   exact ⟨v, r, rfl, zjx hS x h.1 h1, z8r hS xs h.2 h2⟩
end
theorem zop {l : List Grp} : ∀ {xs ys : List AV}, leSL l xs ys → ys.length = xs.length
 | [], ys, h => by rw [show ys = [] from h]
 | _ :: _, [], h => h.elim
 | _ :: _, _ :: _, h => by simp [zop h.2]
mutual
theorem zhm (l : List Grp) : ∀ x : AV, leS l x x
 | .any => trivial
 | .int _ _ => ⟨rfl, rfl⟩
 | .bool _ => rfl
 | .str _ => rfl
 | .nilS => trivial
 | .nul => trivial
 | .emp => trivial
 | .lst _ _ => ⟨rfl, rfl⟩
 | .full _ _ => ⟨rfl, rfl⟩
 | .map _ _ => rfl
 | .ref .. => ⟨rfl, rfl, rfl, rfl⟩
 | .ptr .. => ⟨rfl, rfl, rfl, rfl⟩
 | .cptr _ => rfl
 | .nilP => rfl
 | .nilF => rfl
 | .yld _ => rfl
 | .fn .. => rfl
 | .agg xs => z0n l xs
 | .tup xs => z0n l xs
theorem z0n (l : List Grp) : ∀ xs : List AV, leSL l xs xs
 | [] => rfl
 | x :: xs => ⟨zhm l x, z0n l xs⟩
end
theorem y7e {x y : AV} (h : leS [] x y) : AV.le x y := fun S v hv => zjx (.inr rfl) x h hv
theorem z8s {xs ys : List AV} (h : leSL [] xs ys) : leL xs ys := fun S v hv => z8r (.inr rfl) xs h hv
def zz3 (l : List Grp) (G G' : Grp) : Prop := G.w = G'.w ∧ G.ver = G'.ver ∧ (G'.exact = true → G.exact = true) ∧ leSL l G.xs G'.xs
def z73 (l0 : List Grp) : List Grp → List Grp → Prop
 | [], [] => True
 | G :: l, G' :: l' => zz3 l0 G G' ∧ z73 l0 l l'
 | _, _ => False
theorem zak {l0 : List Grp} : ∀ {l l' : List Grp}, z73 l0 l l' → l'.length = l.length
 | [], [], _ => rfl
 | G :: l, G' :: l', h => by simp [zak h.2]
 | [], _ :: _, h => h.elim
 | _ :: _, [], h => h.elim
theorem zcs {l0 : List Grp} : ∀ {l l' : List Grp}, z73 l0 l l' → ∀ g, g < l.length → zz3 l0 (l.getD g default) (l'.getD g default)
 | [], [], _, g, hg => by simp at hg
 | G :: l, G' :: l', h, 0, _ => h.1
 | G :: l, G' :: l', h, g + 1, hg => by simpa using zcs h.2 g (by simpa using hg)
 | [], _ :: _, h, _, _ => h.elim
 | _ :: _, [], h, _, _ => h.elim
theorem z7w {S : MS} {l l' : List Grp} (hS : SRel S (hl l)) (h : z73 l l l') : SRel S (hl l') := by
 have hlen := zak h
 refine ⟨hS.n.trans hlen.symm, fun g hg => ?_, fun g g' hg hg' hne hw hw' => ?_, hS.im⟩
 · have hg' : g < l.length := by rw [← hlen]; exact hg
   obtain ⟨h1, h2, h3, h5⟩ := zcs h g hg'
   have h4 : (l.getD g default).xs.length = (l'.getD g default).xs.length := (zop h5).symm
   have hG := hS.grp g hg'
   rw [z2z] at hG ⊢
   refine ⟨by rw [← h2]; exact hG.ver, by rw [← h1]; exact hG.wid, fun hw hc => ?_, fun hw => by rw [← h4]; exact hG.len (by rw [h1]; exact hw), fun hw he => by rw [← h4]; exact hG.full (by rw [h1]; exact hw) (h3 he), fun hw he => ?_⟩
   rotate_left
   · obtain ⟨⟨es, clock, a1, a2⟩, a5⟩ := hG.mlive (by rw [h1]; exact hw) (h3 he)
     exact ⟨⟨es, clock, a1, z8r (.inl hS) _ h5 a2⟩, a5⟩
   obtain ⟨⟨cells, TT, us, a1, a2, a3, a4⟩, a5⟩ := hG.live (by rw [h1]; exact hw) hc
   exact ⟨⟨cells, TT, us, a1, by rw [← h1]; exact a2, z8r (.inl hS) _ h5 a3, by rw [← h1]; exact a4⟩, a5⟩
 · have hg1 : g < l.length := by rw [← hlen]; exact hg
   have hg1' : g' < l.length := by rw [← hlen]; exact hg'
   have key : ∀ g, g < l.length → ((hl l').at_ g).has (S.cap g) → ((hl l).at_ g).has (S.cap g) := fun g hg hh => by
     obtain ⟨k1, _, k3, _⟩ := zcs h g hg
     rw [z2z] at hh ⊢
     rcases hh with ⟨q1, q2⟩ | ⟨q1, q2⟩
     · exact .inl ⟨by rw [k1]; exact q1, q2⟩
     · exact .inr ⟨by rw [k1]; exact q1, k3 q2⟩
   exact hS.apart g g' hg1 hg1' hne (key g hg1 hw) (key g' hg1' hw')
inductive Src where
 | grp (g : Nat)
 | virt (w : Nat)
def z0r (w : Nat) : AV → Src
 | .ref g _ _ _ => .grp g
 | .ptr g _ _ _ => .grp g
 | .map g _ => .grp g
 | _ => .virt w
def cellAt (H : z02) (x : AV) (k : Nat) : AV := match x with
 | .ptr g _ i _ => ((H.at_ g).xs.getD i .any).cells.getD k .any
 | _ => .any
def z49 : Nat → List Src → List Nat × List Nat
 | _, [] => ([], [])
 | N, .grp g :: r => (g :: (z49 N r).1, (z49 N r).2)
 | N, .virt w :: r => (N :: (z49 (N + 1) r).1, w :: (z49 (N + 1) r).2)
def z8t (w : Nat) : Grp := ⟨w, 1, true, []⟩
def z3t : List (Nat × AV) → Env
 | [], _ => .any
 | (t, x) :: l, j => if j = t then x else z3t l j
def zb3 (l2 : List Grp) (H1 : z02) (b : Nat) (ks : List Nat) (env : Env) : List (Nat × AV) → Prop
 | [] => True
 | (t, y) :: r => leS l2 (rnV b H1 ks 6 (env t)) y ∧ zb3 l2 H1 b ks env r
def allB (b n : Nat) : List Nat → Prop
 | [] => True
 | k :: r => b ≤ k ∧ k < n ∧ allB b n r
def zm8 : List Nat → Prop
 | [] => True
 | k :: r => k ∉ r ∧ zm8 r
def rnG (b : Nat) (H : z02) (ks : List Nat) (v : Nat) (G : Grp) : Grp := ⟨G.w, v, G.exact, G.xs.map (rnV b H ks 6)⟩
def z3c (b : Nat) (H : z02) (ks : List Nat) : List Grp → List Grp
 | [] => []
 | G :: l => rnG b H ks G.ver G :: z3c b H ks l
def z3q (b : Nat) (H : z02) (ks : List Nat) (l : List Grp) : List Nat → List Grp
 | [] => []
 | k :: r => rnG b H ks 1 (l.getD k default) :: z3q b H ks l r
def y3l (b : Nat) (env : Env) (l1 l2 : List Grp) (ks : List Nat) (live : List (Nat × AV)) (heap : List Grp) : Prop := zb3 l2 (hl l1) b ks env live ∧ z73 l2 l2 heap
def y3m (b : Nat) (env : Env) (l1 : List Grp) (ks : List Nat) (live : List (Nat × AV)) (heap : List Grp) : Prop :=
 allB b l1.length ks ∧ zm8 ks ∧ y3l b env l1 (z3c b (hl l1) ks (l1.take b) ++ z3q b (hl l1) ks l1 ks) ks live heap
def zct : List Nat → Prop
 | [] => True
 | w :: r => 0 < w ∧ zct r
theorem z7x : ∀ {ws : List Nat}, zct ws → ∀ w ∈ ws, 0 < w
 | [], _, w, hw => by simp at hw
 | k :: r, h, w, hw => by
   rcases List.mem_cons.1 hw with rfl | hw
   · exact h.1
   · exact z7x h.2 w hw
def y3n (b : Nat) (env : Env) (l : List Grp) (p : List Nat × List Nat) (live : List (Nat × AV)) (heap : List Grp) : Prop := zct p.2 ∧ y3m b env (l ++ p.2.map z8t) p.1 live heap
def Head (b : Nat) (env : Env) (H : z02) (srcs : List Src) (live : List (Nat × AV)) (heap : List Grp) : Prop := b ≤ H.n ∧ y3n b env H.groups (z49 H.n srcs) live heap
section
variable {P : Program} {n b : Nat} {env : Env} {H : z02} {Q : Ex → Env → z02 → Prop}
theorem y3o {l : List Grp} {srcs : List Src} {live : List (Nat × AV)} {heap : List Grp} : Head b env (hl l) srcs live heap = (b ≤ l.length ∧ y3n b env l (z49 l.length srcs) live heap) := by
 rw [Head, zjv, hl_n]
theorem y3p {c : AC} (w : Nat) (hw0 : 0 < w) (h : T P n b c env (H.push ⟨w, 1, true, []⟩) Q) : T P n b c env H Q := by
 intro rd mm hrd code hc S a hb hS hF
 exact wpIn_mono (h rd mm hrd code hc (S.virt w) a (Nat.le_succ_of_le hb) (hS.virt w hw0) ⟨hF.size, hF.defers.mono (Evo.virt _), fun j hj => VRel.mono (Evo.virt _) _ (hF.val j hj)⟩) fun e a w hh => hh.trans ((Evo.virt _).down hb)
theorem zue {c : AC} : ∀ (ws : List Nat) {l : List Grp}, (∀ w ∈ ws, 0 < w) → T P n b c env (hl (l ++ ws.map z8t)) Q → T P n b c env (hl l) Q
 | [], l, _, h => by simpa using h
 | w :: ws, l, hw, h => y3p w (hw w (by simp)) (by rw [z3o]; exact zue ws (fun w' h' => hw w' (by simp [h'])) (by simpa [z8t] using h))
theorem zuf {c : AC} {H' : z02} (hn : H'.n = H.n) (h : ∀ g, g < H.n → H'.at_ g = H.at_ g) (k : T P n b c env H' Q) : T P n b c env H Q :=
 fun rd mm hrd code hc S a hb hS hF => k rd mm hrd code hc S a hb (hS.congr hn h) hF
theorem zc8 {m : Nat} : ∀ {ks : List Nat}, allB b m ks → ∀ k ∈ ks, b ≤ k ∧ k < m
 | [], _, k, hk => by simp at hk
 | k :: r, h, j, hj => by
   rcases List.mem_cons.1 hj with rfl | hj
   · exact ⟨h.1, h.2.1⟩
   · exact zc8 h.2.2 j hj
theorem z6m : ∀ {ks : List Nat}, zm8 ks → ks.Nodup
 | [], _ => List.nodup_nil
 | k :: r, h => List.nodup_cons.2 ⟨h.1, z6m h.2⟩
theorem zcu {H : z02} {ks : List Nat} : ∀ {l : List Grp}, (z3c b H ks l).length = l.length
 | [] => rfl
 | G :: l => by simp [z3c, zcu]
theorem zfq {H : z02} {ks : List Nat} : ∀ {l : List Grp} {g : Nat}, g < l.length → (z3c b H ks l).getD g default = rnG b H ks (l.getD g default).ver (l.getD g default)
 | [], g, h => by simp at h
 | G :: l, 0, _ => rfl
 | G :: l, g + 1, h => by simpa [z3c] using zfq (l := l) (g := g) (by simpa using h)
theorem zcv {H : z02} {ks : List Nat} {l : List Grp} : ∀ {r : List Nat}, (z3q b H ks l r).length = r.length
 | [] => rfl
 | k :: r => by simp [z3q, zcv]
theorem zfr {H : z02} {ks : List Nat} {l : List Grp} : ∀ {r : List Nat} {j : Nat}, j < r.length → (z3q b H ks l r).getD j default = rnG b H ks 1 (l.getD (r.getD j 0) default)
 | [], j, h => by simp at h
 | k :: r, 0, _ => rfl
 | k :: r, j + 1, h => by simpa [z3q] using zfr (r := r) (j := j) (by simpa using h)
theorem zcw {l1 : List Grp} {ks : List Nat} (hb : b ≤ l1.length) : ((hl (z3c b (hl l1) ks (l1.take b) ++ z3q b (hl l1) ks l1 ks)).n = ((hl l1).repack b ks 6).n) ∧
   ∀ g, g < ((hl l1).repack b ks 6).n → (hl (z3c b (hl l1) ks (l1.take b) ++ z3q b (hl l1) ks l1 ks)).at_ g = ((hl l1).repack b ks 6).at_ g := by
 have hO : (z3c b (hl l1) ks (l1.take b)).length = b := by rw [zcu, List.length_take]; omega
 refine ⟨?_, fun g hg => ?_⟩
 · show (z3c b (hl l1) ks (l1.take b) ++ z3q b (hl l1) ks l1 ks).length = b + ks.length
   rw [List.length_append, hO, zcv]
 · have hg' : g < b + ks.length := hg
   rw [z2z]
   show _ = (⟨_, if g < b then (l1.getD g default).ver else 1, _, _⟩ : Grp)
   by_cases hgb : g < b
   · rw [if_pos hgb, z4i hgb]
     have e : (z3c b (hl l1) ks (l1.take b) ++ z3q b (hl l1) ks l1 ks).getD g default = (z3c b (hl l1) ks (l1.take b)).getD g default := by
       simp [List.getD, List.getElem?_append_left (show g < (z3c b (hl l1) ks (l1.take b)).length by omega)]
     have e2 : (l1.take b).getD g default = l1.getD g default := by
       simp [List.getD, hgb]
     rw [e, zfq (by simp; omega), e2]
     rfl
   · rw [if_neg hgb]
     have e : (z3c b (hl l1) ks (l1.take b) ++ z3q b (hl l1) ks l1 ks).getD g default = (z3q b (hl l1) ks l1 ks).getD (g - b) default := by
       have := List.getElem?_append_right (l₁ := z3c b (hl l1) ks (l1.take b)) (l₂ := z3q b (hl l1) ks l1 ks) (i := g) (by omega)
       rw [hO] at this
       simp [List.getD, this]
     rw [e, zfr (by omega)]
     have e3 : inv b ks g = ks.getD (g - b) 0 := by rw [inv, if_neg hgb]
     rw [e3]
     rfl
theorem zcx {S : MS} {l2 : List Grp} {H1 : z02} {ks : List Nat} {a : Act} (hS : SRel S (hl l2)) (hF : FRel S n (fun i => rnV b H1 ks 6 (env i)) a) : ∀ {live : List (Nat × AV)}, zb3 l2 H1 b ks env live → ∀ i, i < n → VRel S (z3t live i) (a.tmps.getD i undef)
 | [], _, i, _ => trivial
 | (t, y) :: r, h, i, hi => by
   show VRel S (if i = t then y else z3t r i) _
   split
   · rename_i hit
     subst hit
     exact zjx (.inl hS) _ h.1 (hF.val i hi)
   · exact zcx hS hF h.2 i hi
theorem zug {c : AC} {srcs : List Src} {live : List (Nat × AV)} {heap : List Grp} (hh : Head b env H srcs live heap) (h : T P n b c (z3t live) (hl heap) Q) : T P n b c env H Q := by
 obtain ⟨hb, hh⟩ := hh
 have hgn : H.groups.length = H.n := by simp [z02.groups]
 refine zuf (H' := hl H.groups) hgn (fun g hg => ?_) ?_
 · show H.groups.getD g default = _
   simp [z02.groups, List.getD, hg]
 refine zue (z49 H.n srcs).2 (z7x hh.1) ?_
 replace hh := hh.2
 generalize hl1 : H.groups ++ (z49 H.n srcs).2.map z8t = l1
 simp only [hl1] at hh
 obtain ⟨h1, h2, h3, h4⟩ := hh
 have hb1 : b ≤ l1.length := by rw [← hl1, List.length_append]; omega
 refine zz2 (z49 H.n srcs).1 6 hb1 (fun k hk => zc8 h1 k hk) (z6m h2) ?_
 obtain ⟨e1, e2⟩ := zcw (ks := (z49 H.n srcs).1) hb1
 refine zuf e1 e2 ?_
 intro rd mm hrd code hc S a hbS hS hF
 have hlen := zak h4
 exact h rd mm hrd code hc S a hbS (z7w hS h4) ⟨hF.size, hF.defers, zcx hS hF h3⟩
theorem z0j {σ : Type} (Fact : σ → Prop) (μ : σ → Nat) (live : σ → List (Nat × AV)) (heap : σ → List Grp) (srcs : Env → z02 → List Src) {c : AC} (s0 : σ) (h0 : Fact s0) (he : Head b env H (srcs env H) (live s0) (heap s0))
   (round : ∀ s, Fact s → T P n b c (z3t (live s)) (hl (heap s)) (Ex.then (fun env' H' => ∃ s', Head b env' H' (srcs env' H') (live s') (heap s') ∧ Fact s' ∧ μ s' < μ s) Q)) : T P n b (.loop c) env H Q := by
 refine y1u (fun s env H => Fact s ∧ Head b env H (srcs env H) (live s) (heap s)) μ s0 ⟨h0, he⟩ fun s env H hI => ?_
 refine zug hI.2 (T.mono (round s hI.1) fun x env' H' hh => ?_)
 cases x with
 | normal => obtain ⟨s', k1, k2, k3⟩ := hh; exact ⟨s', ⟨k2, k1⟩, k3⟩
 | exit id => exact hh
 | ret => exact hh
end
def hset (l : List Grp) (g : Nat) (G : Grp) : z02 := (hl l).set g G
def setQ : List Grp → Nat → Grp → Option (List Grp)
 | [], _, _ => none
 | _ :: l, 0, G => some (G :: l)
 | K :: l, g + 1, G => (setQ l g G).map (K :: ·)
theorem zjy : ∀ {l : List Grp} {g : Nat} {G : Grp} {l' : List Grp}, setQ l g G = some l' → g < l.length ∧ l' = l.set g G
 | [], _, _, _, h => by cases h
 | _ :: l, 0, G, _, h => by cases h; exact ⟨by simp, rfl⟩
 | K :: l, g + 1, G, l', h => by
   obtain ⟨r, hr, rfl⟩ := Option.map_eq_some_iff.1 h
   obtain ⟨h1, rfl⟩ := zjy hr
   exact ⟨by simpa using h1, rfl⟩
theorem y3q (l : List Grp) (g : Nat) (G : Grp) : (hl l).set g G = (match setQ l g G with | some l' => hl l' | none => hset l g G) := by
 cases h : setQ l g G with
 | none => rfl
 | some l' => obtain ⟨h1, rfl⟩ := zjy h; exact z6w l g G h1
theorem zuh (K : Grp) (l : List Grp) (G : Grp) : setQ (K :: l) 0 G = some (G :: l) := rfl
theorem zui (K : Grp) (l : List Grp) (g : Nat) (G : Grp) : setQ (K :: l) (g + 1) G = (setQ l g G).map (K :: ·) := rfl
theorem y3r (g : Nat) : pos [] g = none := rfl
theorem zz4 (k : Nat) (ks : List Nat) (g : Nat) : pos (k :: ks) g = if g = k then some 0 else (pos ks g).map (· + 1) := rfl
section
variable {b d : Nat} {H : z02} {ks : List Nat}
def rnL (b : Nat) (H : z02) (ks : List Nat) (d : Nat) (xs : List AV) : List AV := xs.map (rnV b H ks d)
theorem y7f (xs : List AV) : xs.map (rnV b H ks (d + 1)) = bif z0l xs then xs else rnL b H ks (d + 1) xs := by
 cases h : z0l xs
 · rfl
 · have key : ∀ (d : Nat) {x : AV}, x.pure = true → rnV b H ks d x = x := by
     intro d
     induction d with
     | zero => intro x hx; simp [rnV, hx]
     | succ d ih =>
       intro x hx
       have kl : ∀ cs : List AV, z0l cs = true → cs.map (rnV b H ks d) = cs := fun cs hc => by
         have : cs.map (rnV b H ks d) = cs.map id := List.map_congr_left fun y hy => ih (z2i.1 hc y hy)
         simpa using this
       cases x with
       | ref => simp [AV.pure] at hx
       | ptr => simp [AV.pure] at hx
       | map => simp [AV.pure] at hx
       | agg cs => rw [rnV, kl cs (by simpa [AV.pure] using hx)]
       | tup cs => rw [rnV, kl cs (by simpa [AV.pure] using hx)]
       | fn f cs => rw [rnV, kl cs (by simpa [AV.pure] using hx)]
       | _ => rfl
   have : xs.map (rnV b H ks (d + 1)) = xs.map id := List.map_congr_left fun y hy => key _ (z2i.1 h y hy)
   simpa using this
theorem y3s : rnL b H ks d [] = [] := rfl
theorem zz5 (x : AV) (xs : List AV) : rnL b H ks d (x :: xs) = rnV b H ks d x :: rnL b H ks d xs := rfl
theorem y7g (g v off len : Nat) : rnV b H ks (d + 1) (.ref g v off len) = if g < b then .ref g v off len else if v = (H.at_ g).ver then
     (match pos ks g with
      | some j => .ref (b + j) 1 off len
      | none => if 0 < (H.at_ g).w ∧ off + len ≤ (H.at_ g).xs.length then frzL (H.at_ g).w ((((H.at_ g).xs.drop off).take len).map (rnV b H ks d)) else .any)
     else .any := rfl
theorem y7h (g v i o : Nat) : rnV b H ks (d + 1) (.ptr g v i o) = if g < b then .ptr g v i o else if v = (H.at_ g).ver then
     (match pos ks g with
      | some j => .ptr (b + j) 1 i o
      | none => if o = 0 ∧ i < (H.at_ g).xs.length ∧ 0 < (H.at_ g).w then frzP (rnV b H ks d ((H.at_ g).xs.getD i .any)) else .any)
     else .any := rfl
theorem y7i (cs : List AV) : rnV b H ks (d + 1) (.agg cs) = .agg (cs.map (rnV b H ks d)) := rfl
theorem y7j (cs : List AV) : rnV b H ks (d + 1) (.tup cs) = .tup (cs.map (rnV b H ks d)) := rfl
theorem rn_fn (f : Nat) (cs : List AV) : rnV b H ks (d + 1) (.fn f cs) = .fn f (cs.map (rnV b H ks d)) := rfl
theorem y7k : rnV b H ks (d + 1) .any = .any := rfl
theorem y3t (w : Nat) (xs : List AV) : rnV b H ks (d + 1) (.full w xs) = .full w xs := rfl
theorem rn_mp (g v : Nat) : rnV b H ks (d + 1) (.map g v) = if g < b then .map g v else if v = (H.at_ g).ver then (match pos ks g with | some j => .map (b + j) 1 | none => .any) else .any := rfl
theorem y3u (q : Bool) : rnV b H ks (d + 1) (.bool q) = .bool q := rfl
theorem y7l (k : IntKind) (n : Int) : rnV b H ks (d + 1) (.int k n) = .int k n := rfl
theorem y7m (s : List UInt8) : rnV b H ks (d + 1) (.str s) = .str s := rfl
theorem y3v : rnV b H ks (d + 1) .nilS = .nilS := rfl
theorem y7n : rnV b H ks (d + 1) .nul = .nul := rfl
theorem y3w : rnV b H ks (d + 1) .nilP = .nilP := rfl
theorem y3x : rnV b H ks (d + 1) .nilF = .nilF := rfl
theorem y7o (l : Nat) : rnV b H ks (d + 1) (.yld l) = .yld l := rfl
theorem y7p (w : Nat) (xs : List AV) : rnV b H ks (d + 1) (.lst w xs) = .lst w xs := rfl
theorem y3y (x : AV) : rnV b H ks (d + 1) (.cptr x) = .cptr x := rfl
end
section
variable {l l0 l' : List Grp} {G G' : Grp}
theorem y7q : z73 l0 [] [] = True := rfl
theorem y3z : z73 l0 (G :: l) (G' :: l') = (zz3 l0 G G' ∧ z73 l0 l l') := rfl
theorem g_le : zz3 l0 G G' = (G.w = G'.w ∧ G.ver = G'.ver ∧ (G'.exact = true → G.exact = true) ∧ leSL l0 G.xs G'.xs) := rfl
theorem zuj {x : AV} : leS l x x = True := eq_true (zhm l x)
theorem zz6 {xs : List AV} : leSL l xs xs = True := eq_true (z0n l xs)
theorem y40 {ys : List AV} : leSL l [] ys = (ys = []) := by simp only [leSL]
theorem zz7 {x y : AV} {xs ys : List AV} : leSL l (x :: xs) (y :: ys) = (leS l x y ∧ leSL l xs ys) := by simp only [leSL]
theorem zfs {k : IntKind} {a : Int} {k' : IntKind} {b : Int} : leS l (.int k a) (.int k' b) = (k = k' ∧ a = b) := by simp only [leS]
theorem zb4 {a : Bool} {b : Bool} : leS l (.bool a) (.bool b) = (a = b) := by simp only [leS]
theorem zcy  {w : Nat} {ys : List AV} : leS l .nilS (.lst w ys) = (0 < w ∧ ys = []) := by simp only [leS]
theorem zm9  {g v o n : Nat} : leS l .nilS (.ref g v o n) = (o = 0 ∧ n = 0 ∧ (l.getD g default).ver = v ∧ 0 < (l.getD g default).w ∧ (l.getD g default).xs = [] ∧ (l.getD g default).exact = true ∧ g < l.length) := by simp only [leS]
theorem zft  {w : Nat} {ys : List AV} : leS l .nul (.lst w ys) = (0 < w ∧ ys = []) := by simp only [leS]
theorem zfu  {w : Nat} {ys : List AV} : leS l .emp (.lst w ys) = (0 < w ∧ ys = []) := by simp only [leS]
theorem zjz {w : Nat} {xs : List AV} {w' : Nat} {ys : List AV} : leS l (.full w xs) (.full w' ys) = (w = w' ∧ xs = ys) := by simp only [leS]
theorem zcz {w : Nat} {xs : List AV} {w' : Nat} {ys : List AV} : leS l (.full w xs) (.lst w' ys) = (w = w' ∧ leSL l xs ys ∧ z0l ys = true) := by simp only [leS]
theorem zr2 {g v g' v' : Nat} : leS l (.map g v) (.map g' v') = (g = g' ∧ v = v') := by simp only [leS, AV.map.injEq]
theorem zfv {w : Nat} {xs : List AV} {w' : Nat} {ys : List AV} : leS l (.lst w xs) (.lst w' ys) = (w = w' ∧ xs = ys) := by simp only [leS]
theorem zr3 {g v o n : Nat} {g' v' o' n' : Nat} : leS l (.ref g v o n) (.ref g' v' o' n') = (g = g' ∧ v = v' ∧ o = o' ∧ n = n') := by simp only [leS]
theorem zr4 {g v o n : Nat} {g' v' o' n' : Nat} : leS l (.ptr g v o n) (.ptr g' v' o' n') = (g = g' ∧ v = v' ∧ o = o' ∧ n = n') := by simp only [leS]
theorem zfw {xs : List AV} {ys : List AV} : leS l (.agg xs) (.agg ys) = leSL l xs ys := by simp only [leS]
theorem zfx {xs : List AV} {ys : List AV} : leS l (.tup xs) (.tup ys) = leSL l xs ys := by simp only [leS]
theorem y7r {x : AV} : leS l x .any = True := eq_true (by cases x <;> simp only [leS])
def ansW (x y : AV) : Prop := leS [] x y
theorem y41 {x : AV} : ansW x x = True := zuj
theorem y7s {k k' : IntKind} {a b : Int} : ansW (.int k a) (.int k' b) = (k = k' ∧ a = b) := zfs
theorem y42 {a b : Bool} : ansW (.bool a) (.bool b) = (a = b) := zb4
theorem y43 {w w' : Nat} {xs ys : List AV} : ansW (.full w xs) (.lst w' ys) = (w = w' ∧ leSL [] xs ys ∧ z0l ys = true) := zcz
theorem y7t {w w' : Nat} {xs ys : List AV} : ansW (.lst w xs) (.lst w' ys) = (w = w' ∧ xs = ys) := zfv
theorem y44 {w : Nat} {ys : List AV} : ansW .nilS (.lst w ys) = (0 < w ∧ ys = []) := zcy
theorem y7u {w : Nat} {ys : List AV} : ansW .nul (.lst w ys) = (0 < w ∧ ys = []) := zft
theorem y7v {w : Nat} {ys : List AV} : ansW .emp (.lst w ys) = (0 < w ∧ ys = []) := zfu
theorem y7w {xs ys : List AV} : ansW (.agg xs) (.agg ys) = leSL [] xs ys := zfw
theorem z1f {xs ys : List AV} : ansW (.tup xs) (.tup ys) = leSL [] xs ys := zfx
end
attribute [push_cast] zjz zcz zr2 y43 y3t rn_mp
attribute [push_cast] zuj zz6 y40 zz7 zfs zb4 zcy zm9 zft zfu zfv zr3 zr4 zfw zfx y7r y41 y7s y42 y7t y44 y7u y7v y7w
section
variable {H H1 : z02} {l0 : List Grp} {b t : Nat} {ks : List Nat} {env : Env} {y : AV} {r : List (Nat × AV)}
theorem zz8 : zb3 l0 H1 b ks env [] = True := rfl
theorem zuk : zb3 l0 H1 b ks env ((t, y) :: r) = (leS l0 (rnV b H1 ks 6 (env t)) y ∧ zb3 l0 H1 b ks env r) := rfl
theorem zz9 {n : Nat} : allB b n [] = True := rfl
theorem zul {n k : Nat} : allB b n (k :: ks) = (b ≤ k ∧ k < n ∧ allB b n ks) := rfl
theorem zum : zm8 [] = True := rfl
theorem zr5 {k : Nat} : zm8 (k :: ks) = (k ∉ ks ∧ zm8 ks) := rfl
theorem zun {w g v o n : Nat} : z0r w (.ref g v o n) = .grp g := rfl
theorem zuo {w g v i o : Nat} : z0r w (.ptr g v i o) = .grp g := rfl
theorem zup {w g v : Nat} : z0r w (.map g v) = .grp g := rfl
theorem zr6 : zct [] = True := rfl
theorem zma {w : Nat} {r : List Nat} : zct (w :: r) = (0 < w ∧ zct r) := rfl
theorem zr7 {w : Nat} : z0r w .nilS = .virt w := rfl
theorem zr8 {g v i o k : Nat} : cellAt H (.ptr g v i o) k = ((H.at_ g).xs.getD i .any).cells.getD k .any := rfl
theorem y7x {N : Nat} : z49 N [] = ([], []) := rfl
theorem y7y {N g : Nat} {l : List Src} : z49 N (.grp g :: l) = (g :: (z49 N l).1, (z49 N l).2) := rfl
theorem y45 {N w : Nat} {l : List Src} : z49 N (.virt w :: l) = (N :: (z49 (N + 1) l).1, w :: (z49 (N + 1) l).2) := rfl
theorem y7z {j : Nat} : z3t [] j = .any := rfl
theorem y46 {j : Nat} : z3t ((t, y) :: r) j = if j = t then y else z3t r j := rfl
variable {l l1 l2 : List Grp} {G : Grp} {live : List (Nat × AV)} {heap : List Grp}
theorem head1 {p q : List Nat} : y3n b env l (p, q) live heap = (zct q ∧ y3m b env (l ++ q.map z8t) p live heap) := rfl
theorem head2 : y3m b env l1 ks live heap = (allB b l1.length ks ∧ zm8 ks ∧ y3l b env l1 (z3c b (hl l1) ks (l1.take b) ++ z3q b (hl l1) ks l1 ks) ks live heap) := rfl
theorem head3 : y3l b env l1 l2 ks live heap = (zb3 l2 (hl l1) b ks env live ∧ z73 l2 l2 heap) := rfl
theorem y80 : z3c b H ks [] = [] := rfl
theorem y47 : z3c b H ks (G :: l) = rnG b H ks G.ver G :: z3c b H ks l := rfl
theorem y81 : z3q b H ks l [] = [] := rfl
theorem y48 {k : Nat} {r : List Nat} : z3q b H ks l (k :: r) = rnG b H ks 1 (l.getD k default) :: z3q b H ks l r := rfl
theorem y82 {v : Nat} : rnG b H ks v G = ⟨G.w, v, G.exact, G.xs.map (rnV b H ks 6)⟩ := rfl
end
theorem zza (i : Nat) (ks : List Nat) : z9c i ks [] = [] := rfl
theorem zuq (i : Nat) (ks : List Nat) (G : Grp) (l : List Grp) : z9c i ks (G :: l) = (if i ∈ ks then G.dead else G) :: z9c (i + 1) ks l := rfl
theorem y49 (w : Nat) : z8t w = ⟨w, 1, true, []⟩ := rfl
theorem y4a (w : Nat) (xs : List AV) : frzL w xs = bif z0l xs then .lst w xs else .any := rfl
theorem y4b (x : AV) : frzP x = bif x.pure then .cptr x else .any := rfl
theorem zk0 (xs ys : List AV) : z0l (xs ++ ys) = (z0l xs && z0l ys) := by
 induction xs with
 | nil => rfl
 | cons x xs ih => simp [z0l, ih, Bool.and_assoc]
theorem zr9 (i : Nat) : ((i : Int) - 1).toNat = i - 1 := by omega
theorem zra (i : Nat) : ((i : Int) + 1).toNat = i + 1 := by omega
theorem zur (i k : Nat) : ((i : Int) + (k : Int)).toNat = i + k := by omega
theorem drop_at {α : Type} [Inhabited α] {l : List α} {i : Nat} (h : i < l.length) : l.drop i = nth l i :: l.drop (i + 1) := by
 rw [List.drop_eq_getElem_cons h]; simp [nth, List.getD, h]
theorem take_at {α : Type} [Inhabited α] {l : List α} {i : Nat} (h : i < l.length) : l.take (i + 1) = l.take i ++ [nth l i] := by
 rw [List.take_succ_eq_append_getElem h]; simp [nth, List.getD, h]
theorem z0k {α : Type} [Inhabited α] {l : List α} {i : Nat} (h : i < l.length) : nth l i ∈ l := by
 have : nth l i = l[i] := by simp [nth, List.getD, h]
 rw [this]; exact List.getElem_mem h
theorem y4c (g k : Nat) (ks : List Nat) : (g ∈ k :: ks) = (g = k ∨ g ∈ ks) := by simp
theorem zmb (g : Nat) : (g ∈ ([] : List Nat)) = False := by simp
theorem y4d (H : z02) (ks : List Nat) (g : Nat) : (H.only ks).at_ g = if g ∈ ks then H.at_ g else (H.at_ g).dead := rfl
def z1l : List AV → List Nat
 | [] => []
 | .ref g _ _ _ :: l => g :: z1l l
 | .ptr g _ _ _ :: l => g :: z1l l
 | .agg cs :: l => z1l cs ++ z1l l
 | .fn _ cs :: l => z1l cs ++ z1l l
 | _ :: l => z1l l
theorem z2k {w : Nat} {xs l : List AV} : z1l (.lst w xs :: l) = z1l l := by rw [z1l] <;> (intros; simp_all)
theorem zus {x : AV} {l : List AV} : z1l (.cptr x :: l) = z1l l := by rw [z1l] <;> (intros; simp_all)
theorem zzb {k : IntKind} {n : Int} {l : List AV} : z1l (.int k n :: l) = z1l l := by rw [z1l] <;> (intros; simp_all)
theorem zut {b : Bool} {l : List AV} : z1l (.bool b :: l) = z1l l := by rw [z1l] <;> (intros; simp_all)
theorem zuu {l : List AV} : z1l (.nilS :: l) = z1l l := by rw [z1l] <;> (intros; simp_all)
theorem zzc {g v o n : Nat} {l : List AV} : z1l (.ref g v o n :: l) = g :: z1l l := by rw [z1l]
theorem zzd {g v o n : Nat} {l : List AV} : z1l (.ptr g v o n :: l) = g :: z1l l := by rw [z1l]
theorem zze {cs l : List AV} : z1l (.agg cs :: l) = z1l cs ++ z1l l := by rw [z1l]
theorem y4e {f : Nat} {cs l : List AV} : z1l (.fn f cs :: l) = z1l cs ++ z1l l := by rw [z1l]
theorem zzf : z1l [] = [] := by rw [z1l]
attribute [push_cast] z2k zus zzb zut zuu zzc zzd zze y4e zzf
def okA (d : Nat) (H : z02) : List AV → Prop
 | [] => True
 | x :: l => z2j d H x ∧ okA d H l
section
variable {P : Program} {f : Nat} {xs ys : List AV} {y : AV} {l : List Grp} {H : z02}
theorem zd0 {d : Nat} : ∀ {xs : List AV}, okA d H xs → ∀ x ∈ xs, z2j d H x
 | [], _, x, hx => by simp at hx
 | z :: r, h, x, hx => by
   rcases List.mem_cons.1 hx with rfl | hx
   · exact h.1
   · exact zd0 h.2 x hx
theorem y4f {d : Nat} : okA d H [] = True := rfl
theorem zzg {d : Nat} {x : AV} : okA d H (x :: xs) = (z2j d H x ∧ okA d H xs) := rfl
theorem z8u (h : PC P f ys y) (hl : leL xs ys) : PC P f xs y := z62 hl h
def chB (c : Bool) (p q : Prop) : Prop := match c with
 | true => p
 | false => q
theorem zzh {p q : Prop} : chB true p q = p := rfl
theorem zuv {p q : Prop} : chB false p q = q := rfl
def frA (d : Nat) (H : z02) (xs : List AV) : List AV := xs.map (frzV d H)
theorem y4g {d : Nat} : frA d H [] = [] := rfl
theorem zzi {d : Nat} {x : AV} : frA d H (x :: xs) = frzV d H x :: frA d H xs := rfl
theorem cK {K : AV → z02 → Prop} (h : PC P f ys y) (hh : chB (z0l xs) (leSL [] xs ys ∧ z0l ys = true ∧ @nx y (hl l) ⟨K⟩)
   (chB y.flat (okA 4 (hl l) xs ∧ leSL [] (frA 4 (hl l) xs) ys ∧ @nx y (hl l) ⟨K⟩)
     (okA 4 ((hl l).only (z1l xs)) xs ∧ leSL [] (frA 4 ((hl l).only (z1l xs)) xs) ys ∧ z0l ys = true ∧ @nx y (hl (z9c 0 (z1l xs) l)) ⟨K⟩))) : @zm5 P f xs (hl l) ⟨K⟩ := by
 cases hp : z0l xs <;> rw [hp] at hh
 · cases hy : y.flat <;> rw [hy] at hh
   · obtain ⟨h1, h2, h3, h4⟩ := hh
     exact zfp 4 (z1l xs) (zd0 h1) (z62 (z8s h2) (z6l h h3 h4))
   · obtain ⟨h1, h2, h3⟩ := hh
     exact ztf (z8u h (z8s h2)) 4 (zd0 h1) rfl hy h3
 · obtain ⟨h1, h2, h3⟩ := hh
   exact z62 (z8s h1) (z6l h h2 h3)
theorem eK {K : AV → z02 → Prop} (h : PC P f xs y) (hh : z0l xs = true ∧ @nx y H ⟨K⟩) : @zm5 P f xs H ⟨K⟩ := z6l h hh.1 hh.2
theorem eQ {K : AV → Prop} (h : PC P f xs y) (hh : z0l xs = true ∧ @nq y ⟨K⟩) : @zyc P f xs H ⟨K⟩ := ⟨y, z6l h hh.1 ⟨rfl, rfl⟩, hh.2⟩
theorem cQ {K : AV → Prop} (h : PC P f ys y) (hh : chB (z0l xs) (leSL [] xs ys ∧ z0l ys = true ∧ @nq y ⟨K⟩)
   (y.flat = true ∧ okA 4 (hl l) xs ∧ leSL [] (frA 4 (hl l) xs) ys ∧ @nq y ⟨K⟩)) : @zyc P f xs (hl l) ⟨K⟩ := by
 cases hp : z0l xs <;> rw [hp] at hh
 · obtain ⟨hy, h1, h2, h3⟩ := hh
   exact ⟨y, ztf (z8u h (z8s h2)) 4 (zd0 h1) rfl hy ⟨rfl, rfl⟩, h3⟩
 · obtain ⟨h1, h2, h3⟩ := hh
   exact ⟨y, z62 (z8s h1) (z6l h h2 ⟨rfl, rfl⟩), h3⟩
end
attribute [push_cast] y4f zzg y4g zzi zzh zuv AV.flat ztc
section
variable {d : Nat} {H : z02}
def okL (d : Nat) (H : z02) (xs : List AV) : Prop := ∀ y ∈ xs, z2j d H y
def frL (d : Nat) (H : z02) (xs : List AV) : List AV := xs.map (frzV d H)
def okM (d : Nat) (H : z02) (xs : List AV) : Prop := okL d H xs
def frM (d : Nat) (H : z02) (xs : List AV) : List AV := frL d H xs
def ifB (b : Bool) (p : Prop) : Prop := b = true ∨ p
theorem zzj (p : Prop) : ifB true p = True := by simp [ifB]
theorem zuw (p : Prop) : ifB false p = p := by simp [ifB]
theorem y83 (xs : List AV) : okL d H xs = ifB (z0l xs) (okM d H xs) := propext ⟨fun h => .inr h, fun h => h.elim (fun h => (z5d H d h).1) id⟩
theorem y84 (xs : List AV) : frL d H xs = bif z0l xs then xs else frM d H xs := by
 cases h : z0l xs
 · rfl
 · exact (z5d H d h).2
theorem y4h : okM d H [] = True := by simp [okM, okL]
theorem zzk (x : AV) (xs : List AV) : okM d H (x :: xs) = (z2j d H x ∧ okM d H xs) := by simp [okM, okL]
theorem y4i : frM d H [] = [] := rfl
theorem zzl (x : AV) (xs : List AV) : frM d H (x :: xs) = frzV d H x :: frM d H xs := rfl
theorem y85 (g v off len : Nat) : z2j (d + 1) H (.ref g v off len) = ((H.at_ g).ver = v ∧ 0 < (H.at_ g).w ∧ off + len ≤ (H.at_ g).xs.length ∧ okL d H (((H.at_ g).xs.drop off).take len)) := rfl
theorem y86 (g v i o : Nat) : z2j (d + 1) H (.ptr g v i o) = ((H.at_ g).ver = v ∧ i < (H.at_ g).xs.length ∧ 0 < (H.at_ g).w ∧ o = 0 ∧ z2j d H ((H.at_ g).xs.getD i .any)) := rfl
theorem y87 (cs : List AV) : z2j (d + 1) H (.agg cs) = okL d H cs := rfl
theorem y88 (cs : List AV) : z2j (d + 1) H (.tup cs) = okL d H cs := rfl
theorem ok_fn (f : Nat) (cs : List AV) : z2j (d + 1) H (.fn f cs) = okL d H cs := rfl
theorem y89 : z2j (d + 1) H .any = True := eq_true rfl
theorem y4j (b : Bool) : z2j (d + 1) H (.bool b) = True := eq_true rfl
theorem ok_int (k : IntKind) (n : Int) : z2j (d + 1) H (.int k n) = True := eq_true rfl
theorem y8a (s : List UInt8) : z2j (d + 1) H (.str s) = True := eq_true rfl
theorem y4k : z2j (d + 1) H .nilS = True := eq_true rfl
theorem y8b : z2j (d + 1) H .nul = True := eq_true rfl
theorem y8c : z2j (d + 1) H .emp = True := eq_true rfl
theorem y4l : z2j (d + 1) H .nilP = True := eq_true rfl
theorem y4m : z2j (d + 1) H .nilF = True := eq_true rfl
theorem y8d (l : Nat) : z2j (d + 1) H (.yld l) = True := eq_true rfl
theorem y4n (w : Nat) (xs : List AV) : z2j (d + 1) H (.full w xs) = (z0l xs = true) := rfl
theorem y4o (w : Nat) (xs : List AV) : frzV (d + 1) H (.full w xs) = .full w xs := rfl
theorem y8e (w : Nat) (xs : List AV) : z2j (d + 1) H (.lst w xs) = (z0l xs = true) := rfl
theorem y4p (x : AV) : z2j (d + 1) H (.cptr x) = (x.pure = true) := rfl
theorem y8f (g v off len : Nat) : frzV (d + 1) H (.ref g v off len) = .lst (H.at_ g).w (frL d H (((H.at_ g).xs.drop off).take len)) := rfl
theorem y8g (g v i o : Nat) : frzV (d + 1) H (.ptr g v i o) = if o = 0 then .cptr (frzV d H ((H.at_ g).xs.getD i .any)) else .any := rfl
theorem y8h (cs : List AV) : frzV (d + 1) H (.agg cs) = .agg (frL d H cs) := rfl
theorem y8i (cs : List AV) : frzV (d + 1) H (.tup cs) = .tup (frL d H cs) := rfl
theorem fr_fn (f : Nat) (cs : List AV) : frzV (d + 1) H (.fn f cs) = .fn f (frL d H cs) := rfl
theorem y8j : frzV (d + 1) H .any = .any := rfl
theorem y4q (b : Bool) : frzV (d + 1) H (.bool b) = .bool b := rfl
theorem y8k (k : IntKind) (n : Int) : frzV (d + 1) H (.int k n) = .int k n := rfl
theorem y8l (s : List UInt8) : frzV (d + 1) H (.str s) = .str s := rfl
theorem y4r : frzV (d + 1) H .nilS = .nilS := rfl
theorem y8m : frzV (d + 1) H .nul = .nul := rfl
theorem y8n : frzV (d + 1) H .emp = .emp := rfl
theorem y4s : frzV (d + 1) H .nilP = .nilP := rfl
theorem y4t : frzV (d + 1) H .nilF = .nilF := rfl
theorem y8o (l : Nat) : frzV (d + 1) H (.yld l) = .yld l := rfl
theorem y8p (w : Nat) (xs : List AV) : frzV (d + 1) H (.lst w xs) = .lst w xs := rfl
theorem y4u (x : AV) : frzV (d + 1) H (.cptr x) = .cptr x := rfl
end
attribute [push_cast] zzj zuw y83 y84 y4h zzk y4i zzl y85 y86 y87 y88 ok_fn y89 y4j ok_int y8a y4k y8b y8c y4l y4m y8d y8o y8e y4n y4o y4p y8f y8g y8h y8i fr_fn y8j y4q y8k y8l y4r y8m y8n y4s y4t y8p y4u List.take_length
section
variable {P : Program} {l : List Grp} {xs cs : List AV} {K : AV → List Grp → Prop} {z : AV} {w len n : Nat}
theorem z2f {k : AK} (h : k.still = true) : @opG P k l xs ⟨K⟩ = (z1a (· < l.length) xs ∧ @opK P k (hl l) xs ⟨fun x _ => K x l⟩) := by
 rw [zon]
 have hn : ¬ k.still = false := by rw [h]; simp
 cases k <;> first | (exact propext ⟨fun hh => hh.elim (fun hh => ⟨hh.2.1, hh.2.2⟩) (fun hh => absurd hh.1 hn), fun hh => .inl ⟨h, hh.1, hh.2⟩⟩) | (simp [AK.still] at h)
theorem zrb {k : AK} (h : k.still = false) (he : k.eff.isSome = true) : @opG P k l xs ⟨K⟩ = (k.appOk = true ∧ zh3 k xs ∧ @opK P k (hl l) xs ⟨fun x H' => ∀ l', H' = hl l' → K x l'⟩) := by
 rw [zon]
 have hn : ¬ k.still = true := by rw [h]; simp
 cases k <;> first | (exact propext ⟨fun hh => hh.elim (fun hh => absurd hh.1 hn) (fun hh => ⟨hh.2.2.1, hh.2.2.2⟩), fun hh => .inr ⟨h, he, hh.1, hh.2⟩⟩) | (simp [AK.eff] at he)
theorem G_mv  : @opG P .mv l xs ⟨K⟩ = (z1a (· < l.length) xs ∧ @opK P .mv (hl l) xs ⟨fun x _ => K x l⟩) := z2f rfl
theorem y8q  : @opG P .pick l xs ⟨K⟩ = (z1a (· < l.length) xs ∧ @opK P .pick (hl l) xs ⟨fun x _ => K x l⟩) := z2f rfl
theorem y4v {zs : List AV} {pl : List (Nat × Nat)} {idx : List Nat} : @opG P (.build zs pl idx) l xs ⟨K⟩ = (z1a (· < l.length) xs ∧ @opK P (.build zs pl idx) (hl l) xs ⟨fun x _ => K x l⟩) := z2f rfl
theorem y8r {a : Bool} {s : Nat} : @opG P (.load a s) l xs ⟨K⟩ = (z1a (· < l.length) xs ∧ @opK P (.load a s) (hl l) xs ⟨fun x _ => K x l⟩) := z2f rfl
theorem zrc  : @opG P .nilCheck l xs ⟨K⟩ = (z1a (· < l.length) xs ∧ @opK P .nilCheck (hl l) xs ⟨fun x _ => K x l⟩) := z2f rfl
theorem G_bin {op : BinOp} : @opG P (.bin op) l xs ⟨K⟩ = (z1a (· < l.length) xs ∧ @opK P (.bin op) (hl l) xs ⟨fun x _ => K x l⟩) := z2f rfl
theorem G_eqb {n : Bool} : @opG P (.eqb n) l xs ⟨K⟩ = (z1a (· < l.length) xs ∧ @opK P (.eqb n) (hl l) xs ⟨fun x _ => K x l⟩) := z2f rfl
theorem G_eqs {n : Bool} {ks : List Nat} : @opG P (.eqs n ks) l xs ⟨K⟩ = (z1a (· < l.length) xs ∧ @opK P (.eqs n ks) (hl l) xs ⟨fun x _ => K x l⟩) := z2f rfl
theorem G_eqn {n : Bool} : @opG P (.eqn n) l xs ⟨K⟩ = (z1a (· < l.length) xs ∧ @opK P (.eqn n) (hl l) xs ⟨fun x _ => K x l⟩) := z2f rfl
theorem G_un {op : UnOp} : @opG P (.un op) l xs ⟨K⟩ = (z1a (· < l.length) xs ∧ @opK P (.un op) (hl l) xs ⟨fun x _ => K x l⟩) := z2f rfl
theorem y8s {k : IntKind} : @opG P (.conv k) l xs ⟨K⟩ = (z1a (· < l.length) xs ∧ @opK P (.conv k) (hl l) xs ⟨fun x _ => K x l⟩) := z2f rfl
theorem y4w {w : Nat} {lo hi mx : Bool} : @opG P (.slice w lo hi mx) l xs ⟨K⟩ = (z1a (· < l.length) xs ∧ @opK P (.slice w lo hi mx) (hl l) xs ⟨fun x _ => K x l⟩) := z2f rfl
theorem y4x {a : Bool} {o s : Nat} : @opG P (.faddr a o s) l xs ⟨K⟩ = (z1a (· < l.length) xs ∧ @opK P (.faddr a o s) (hl l) xs ⟨fun x _ => K x l⟩) := z2f rfl
theorem y4y {a : Bool} {o s : Nat} : @opG P (.field a o s) l xs ⟨K⟩ = (z1a (· < l.length) xs ∧ @opK P (.field a o s) (hl l) xs ⟨fun x _ => K x l⟩) := z2f rfl
theorem y4z {w : Nat} : @opG P (.iaddr w) l xs ⟨K⟩ = (z1a (· < l.length) xs ∧ @opK P (.iaddr w) (hl l) xs ⟨fun x _ => K x l⟩) := z2f rfl
theorem zzm {n w : Nat} {a : Bool} : @opG P (.iaddrA n w a) l xs ⟨K⟩ = (z1a (· < l.length) xs ∧ @opK P (.iaddrA n w a) (hl l) xs ⟨fun x _ => K x l⟩) := z2f rfl
theorem y50 {n w : Nat} {a : Bool} : @opG P (.index n w a) l xs ⟨K⟩ = (z1a (· < l.length) xs ∧ @opK P (.index n w a) (hl l) xs ⟨fun x _ => K x l⟩) := z2f rfl
theorem zrd  : @opG P .indexStr l xs ⟨K⟩ = (z1a (· < l.length) xs ∧ @opK P .indexStr (hl l) xs ⟨fun x _ => K x l⟩) := z2f rfl
theorem zux {i : Nat} : @opG P (.extract i) l xs ⟨K⟩ = (z1a (· < l.length) xs ∧ @opK P (.extract i) (hl l) xs ⟨fun x _ => K x l⟩) := z2f rfl
theorem G_len {b : Bool} : @opG P (.len b) l xs ⟨K⟩ = (z1a (· < l.length) xs ∧ @opK P (.len b) (hl l) xs ⟨fun x _ => K x l⟩) := z2f rfl
theorem G_max  : @opG P .max l xs ⟨K⟩ = (z1a (· < l.length) xs ∧ @opK P .max (hl l) xs ⟨fun x _ => K x l⟩) := z2f rfl
theorem G_min  : @opG P .min l xs ⟨K⟩ = (z1a (· < l.length) xs ∧ @opK P .min (hl l) xs ⟨fun x _ => K x l⟩) := z2f rfl
theorem zzn : @opG P (.mapGet z) l xs ⟨K⟩ = (z1a (· < l.length) xs ∧ @opK P (.mapGet z) (hl l) xs ⟨fun x _ => K x l⟩) := z2f rfl
theorem zzo {f : Nat} : @opG P (.mkFunc f) l xs ⟨K⟩ = (z1a (· < l.length) xs ∧ @opK P (.mkFunc f) (hl l) xs ⟨fun x _ => K x l⟩) := z2f rfl
theorem y51  : @opG P .toStr l xs ⟨K⟩ = (z1a (· < l.length) xs ∧ @opK P .toStr (hl l) xs ⟨fun x _ => K x l⟩) := z2f rfl
theorem y52  : @opG P (.alloc z w) l xs ⟨K⟩ = @opK P (.alloc z w) (hl l) xs ⟨fun x H' => ∀ l', H' = hl l' → K x l'⟩ := (zrb rfl rfl).trans (by simp only [AK.appOk, zh3, true_and])
theorem G_box  : @opG P .box l xs ⟨K⟩ = @opK P .box (hl l) xs ⟨fun x H' => ∀ l', H' = hl l' → K x l'⟩ := (zrb rfl rfl).trans (by simp only [AK.appOk, zh3, true_and])
theorem y53  : @opG P (.store w) l xs ⟨K⟩ = @opK P (.store w) (hl l) xs ⟨fun x H' => ∀ l', H' = hl l' → K x l'⟩ := (zrb rfl rfl).trans (by simp only [AK.appOk, zh3, true_and])
theorem zuy  : @opG P (.mkSlice w n z) l xs ⟨K⟩ = @opK P (.mkSlice w n z) (hl l) xs ⟨fun x H' => ∀ l', H' = hl l' → K x l'⟩ := (zrb rfl rfl).trans (by simp only [AK.appOk, zh3, true_and])
theorem G_app : @opG P (.app w n z) l xs ⟨K⟩ = (0 < w ∧ offA xs ∧ @opK P (.app w n z) (hl l) xs ⟨fun x H' => ∀ l', H' = hl l' → K x l'⟩) := (zrb rfl rfl).trans (by simp only [AK.appOk, zh3, decide_eq_true_eq])
theorem zzp {g v o n : Nat} : offA (.ref g v o n :: xs) = (o = 0) := rfl
theorem zuz : offA (.nilS :: xs) = True := rfl
theorem zzq : offA (.nul :: xs) = True := rfl
theorem zzr : offA (.emp :: xs) = True := rfl
theorem zv0 {w : Nat} {ys : List AV} : offA (.full w ys :: xs) = True := rfl
theorem zzs {w : Nat} {ys : List AV} : offA (.lst w ys :: xs) = True := rfl
theorem y8t {f : Nat} : @opG P .call l (.fn f cs :: xs) ⟨K⟩ = @zyd P f (xs ++ cs) l ⟨K⟩ := (rfl)
theorem G_bsl {idx : List Nat} : @opG P (.bslice w len z idx) l xs ⟨K⟩ = (z61 w len idx xs ∧ 0 < w ∧ z0l (z3n idx xs (List.replicate len z)) = true ∧ @nx (.full w (z3n idx xs (List.replicate len z))) (hl l) ⟨fun x _ => K x l⟩) := (rfl)
theorem hl_eq {l l' : List Grp} : (hl l = hl l') = (l = l') := propext ⟨y1w, fun h => h ▸ rfl⟩
theorem eG {f : Nat} {y : AV} (h : PC P f xs y) (hh : z0l xs = true ∧ @nx y (hl l) ⟨fun y _ => K y l⟩) : @zyd P f xs l ⟨K⟩ := ⟨y, fun H => z6l h hh.1 ⟨rfl, rfl⟩, hh.2⟩
theorem cG {f : Nat} {ys : List AV} {y : AV} (h : PC P f ys y) (hh : leSL [] xs ys ∧ z0l ys = true ∧ @nx y (hl l) ⟨fun y _ => K y l⟩) : @zyd P f xs l ⟨K⟩ := ⟨y, fun H => z62 (z8s hh.1) (z6l h hh.2.1 ⟨rfl, rfl⟩), hh.2.2⟩
end
theorem z0t {P : Program} {f m np : Nat} {xs : List AV} {y : AV} {res : List ARes} {B : AC} (hf : z0h P f xs.length = some ⟨m, np, res, B⟩) (h : W P m 0 B (entry xs) (hl []) (Ret P res fun z H => z2j 4 H z ∧ ansW (frzV 4 H z) y)) : PC P f xs y := by
 refine pc_at hf 4 ?_
 rw [zuc]
 exact T.mono (W_T h) fun x env H hh => zye (fun z H hh => ⟨hh.1, y7e hh.2⟩) hh
theorem y1x {P : Program} {f w : Nat} {y : AV} (h1 : PC P f [.nilS] y) (h2 : PC P f [.emp] y) : PC P f [.lst w []] y := by
 refine ⟨h1.1, fun S cargs hS hx => ?_⟩
 obtain ⟨v, r, rfl, ⟨_, _, a, cap, vs, rfl, ⟨_, hn⟩, _, _⟩, hr⟩ := hx
 cases a with
 | none => exact h1.2 S _ hS ⟨_, r, rfl, by rw [hn rfl]; rfl, hr⟩
 | some a => exact h2.2 S _ hS ⟨_, r, rfl, ⟨a, cap, rfl⟩, hr⟩
section
variable {P : Program} {H : z02} {K : AV → z02 → Prop} {n : Bool} {b d : Nat} {ks : List Nat}
theorem zv1 : @opK P (.eqn n) H [.emp, .nilS] ⟨K⟩ = @nx (.bool n) H ⟨K⟩ := (rfl)
theorem zv2 : @opK P (.len false) H [.emp] ⟨K⟩ = @nx (.int .i64 0) H ⟨K⟩ := (rfl)
theorem y8u : rnV b H ks (d + 1) .emp = .emp := rfl
end
theorem z0i {P : Program} {n b : Nat} {c : AC} {env : Env} {H : z02} {Q : Ex → Env → z02 → Prop} (h : T P n b (.loop c) env H Q) : @z8q ⟨T P n b (.loop c) env H Q⟩ := h
attribute [push_cast] zv1 zv2 y8u zuc hl_n z2z z3o y3q zuh zui zjv y3r zz4 y7f y3s zz5 y7g y7h y7i y7j rn_fn y7k y3u y7l y7m y3v y7n y3w y3x y7o y7p y3y
attribute [push_cast] y7q y3z g_le zz8 zuk zz9 zul zum zr5 zun zuo zr7 zup zr6 zma zr8 y7x y7y y45 y7z y46 y3o head1 head2 head3 y80 y47 y81 y48 y82 zza zuq y49 y4a y4b zk0 y4d z1l List.cons_append List.nil_append
attribute [push_cast] zzp zuz zzq zzr zv0 zzs G_mv y8q y4v y8r zrc G_bin G_eqb G_eqs G_eqn G_un y8s y4w y4x y4y y4z zzm y50 zrd zux G_len G_max G_min zzo y51 y52 G_box y53 zuy G_app y8t G_bsl hl_eq z1a forall_eq' forall_eq
attribute [push_cast] List.isEmpty_nil List.isEmpty_cons List.map_eq_nil_iff Option.isSome_some Option.isSome_none
attribute [push_cast] List.map_append List.length_append Option.map_some Option.map_none y4c zmb Int.add_sub_cancel Int.sub_add_cancel zr9 zra zur Nat.not_lt_zero Nat.zero_le
open IntWalk in
attribute [push_cast] i64_in i32_in u8_in u32_in u64_in zu9
theorem zz : type_of% (And.intro @z1 <| And.intro @z2 <| And.intro @z3 <| And.intro @z4 <| And.intro @z5 <| And.intro @z6 <| And.intro @z7 <| And.intro @z8 <| And.intro @z9 <| And.intro @z10 <| And.intro @z11 <| And.intro @z12 <| And.intro @z13 <| And.intro @z14 <| And.intro @z15 <| And.intro @z16 <| And.intro @z17 <| And.intro @z18 <| And.intro @z19 <| And.intro @z20 <| And.intro @z21 <| And.intro @z22 <| And.intro @z23 <| And.intro @z24 <| And.intro @z25 <| And.intro @z26 <| And.intro @z27 <| And.intro @z28 <| And.intro @z29 <| And.intro @z30 <| And.intro @z31 <| And.intro @z32 <| @z33) := And.intro @z1 <| And.intro @z2 <| And.intro @z3 <| And.intro @z4 <| And.intro @z5 <| And.intro @z6 <| And.intro @z7 <| And.intro @z8 <| And.intro @z9 <| And.intro @z10 <| And.intro @z11 <| And.intro @z12 <| And.intro @z13 <| And.intro @z14 <| And.intro @z15 <| And.intro @z16 <| And.intro @z17 <| And.intro @z18 <| And.intro @z19 <| And.intro @z20 <| And.intro @z21 <| And.intro @z22 <| And.intro @z23 <| And.intro @z24 <| And.intro @z25 <| And.intro @z26 <| And.intro @z27 <| And.intro @z28 <| And.intro @z29 <| And.intro @z30 <| And.intro @z31 <| And.intro @z32 <| @z33
end Go.Proofs.Yticodgjinajkpaa.Abs
namespace Go.Proofs.Yticodgjinajkpaa
open Abs
structure Span where
 lo : Int
 hi : Int
 deriving DecidableEq, Inhabited
structure Part where
 at_ : Int
 drop : Int
 take : Int
 up : Int
 deriving DecidableEq, Inhabited
structure Term where
 base : Int
 drop : Int
 take : Int
 up : Int
 sum : Int
 parts : List Part
 deriving DecidableEq, Inhabited
structure Rule where
 from_ : Int
 to_ : Int
 guards : List (List Span)
 eat : Int
 out : List Term
 deriving DecidableEq, Inhabited
structure z6z where
 from_ : Int
 guards : List (List Span)
 out : List Term
 deriving DecidableEq, Inhabited
structure Desc where
 in_ : Int
 out : Int
 states : Int
 start : Int
 rules : List Rule
 finals : List z6z
 deriving DecidableEq, Inhabited
abbrev z4l (l : List Int) : AV := .lst 1 (l.map (AV.int .i64))
abbrev y1y (l : List Int) : AV := .lst 1 (l.map (AV.int .i32))
abbrev z1e (s : Span) : AV := .agg [.int .i64 s.lo, .int .i64 s.hi]
abbrev z03 (l : List Span) : AV := .lst 2 (l.map z1e)
abbrev z0b (l : List (List Span)) : AV := .lst 1 (l.map z03)
abbrev z1t (p : Part) : AV := .agg [.int .i64 p.at_, .int .i64 p.drop, .int .i64 p.take, .int .i64 p.up]
abbrev z0u (l : List Part) : AV := .lst 4 (l.map z1t)
abbrev z1m (t : Term) : AV := .agg [.int .i64 t.base, .int .i64 t.drop, .int .i64 t.take, .int .i64 t.up, .int .i64 t.sum, z0u t.parts]
abbrev z4d (l : List Term) : AV := .lst 6 (l.map z1m)
abbrev z5w (r : Rule) : AV := .agg [.int .i64 r.from_, .int .i64 r.to_, z0b r.guards, .int .i64 r.eat, z4d r.out]
abbrev z9d (f : z6z) : AV := .agg [.int .i64 f.from_, z0b f.guards, z4d f.out]
abbrev z3j (l : List Rule) : AV := .lst 5 (l.map z5w)
abbrev z40 (l : List z6z) : AV := .lst 3 (l.map z9d)
abbrev z1y (d : Desc) : AV := .agg [.int .i64 d.in_, .int .i64 d.out, .int .i64 d.states, .int .i64 d.start, z3j d.rules, z40 d.finals]
theorem z2b (l : List Span) : z0l (l.map z1e) = true := z43 (fun _ => rfl) l
theorem z63 (l : List Part) : z0l (l.map z1t) = true := z43 (fun _ => rfl) l
theorem z06 (l : List (List Span)) : z0l (l.map z03) = true := z43 (fun s => by simp only [z03, AV.pure, z2b]) l
theorem z0w (l : List Term) : z0l (l.map z1m) = true := z43 (fun s => by simp [z1m, AV.pure, z0l, z63]) l
theorem z1h (l : List Rule) : z0l (l.map z5w) = true := z43 (fun s => by simp [z5w, AV.pure, z0l, z06, z0w]) l
theorem z1v (l : List z6z) : z0l (l.map z9d) = true := z43 (fun s => by simp [z9d, AV.pure, z0l, z06, z0w]) l
theorem zre (l : List (List Int)) : z0l (l.map y1y) = true := z43 (fun s => by simp only [y1y, AV.pure, z4h]) l
attribute [push_cast] z2b z63 z06 z0w z1h z1v zre
end Go.Proofs.Yticodgjinajkpaa
namespace Go.Proofs.Yticodgjinajkpaa.Abs
open Go.RowKit
inductive Sh where
 | bool
 | int (k : IntKind)
 | str
 | sl (agg : Bool) (fs : List Sh)
mutual
def Is : Sh → AV → Prop
 | .bool, x => ∃ b, x = .bool b
 | .int k, x => ∃ n, x = .int k n ∧ (Lit.int k n).wf = true
 | .str, x => ∃ s : List UInt8, x = .str s ∧ s.length ≤ maxLen
 | .sl agg fs, x => x = .nilS ∨ ∃ xs, x = .lst fs.length xs ∧ xs.length ≤ maxLen ∧ ∀ y ∈ xs, ∃ cs, y = (if agg then .agg cs else cs.headD .any) ∧ IsL fs cs
def IsL : List Sh → List AV → Prop
 | [], cs => cs = []
 | s :: fs, cs => ∃ c r, cs = c :: r ∧ Is s c ∧ IsL fs r
end
theorem zv3 : ∀ {fs : List Sh} {cs : List AV}, IsL fs cs → cs.length = fs.length
 | [], _, h => by rw [show _ = [] from h]; rfl
 | _ :: _, _, ⟨_, _, h, _, k⟩ => by rw [h]; simp [zv3 k]
mutual
def zf1 (P : Program) : Sh → TypeId → Bool
 | .bool, t => match P.underlying t with | some .bool => true | _ => false
 | .int k, t => match P.underlying t with | some (.int k') => k' == k | _ => false
 | .str, t => match P.underlying t with | some .string => true | _ => false
 | .sl agg fs, t => match P.underlying t with
   | some (.slice e) => P.cellsOf e == fs.length && !fs.isEmpty && (match agg, P.underlying e with
     | true, some (.struct fl) => zf2 P fs 0 fl.toList
     | true, some (.array n u) => fs.length == n && P.cellsOf u == 1 && zv4 P fs u
     | false, _ => fs.length == 1 && zv4 P fs e
     | _, _ => false)
   | _ => false
def zf2 (P : Program) : List Sh → Nat → List Field → Bool
 | [], _, [] => true
 | s :: ss, i, f :: fl => f.offset == i && P.cellsOf f.type == 1 && zf1 P s f.type && zf2 P ss (i + 1) fl
 | _, _, _ => false
def zv4 (P : Program) : List Sh → TypeId → Bool
 | [], _ => true
 | s :: ss, u => zf1 P s u && zv4 P ss u
end
section
variable {H : Type} {enc : TypeId × Value → H} {P : Program} {w : World} {base : Nat} {spare : Nat → Bool} {held : Bool}
def Got (w : World) (s : Sh) (v : Value) : Prop := ∃ x, Is s x ∧ VRel (MS.start w) x v ∧ x.pure = true ∧ x.one = true
def GotL (w : World) (fs : List Sh) (vs : List Value) : Prop := ∃ xs, IsL fs xs ∧ z04 (MS.start w) xs vs ∧ z0l xs = true ∧ z4u xs = true
theorem zoq : GotL w [] [] := ⟨[], rfl, rfl, rfl, rfl⟩
theorem zk1 {s : Sh} {fs : List Sh} {v : Value} {vs : List Value} (h : Got w s v) (k : GotL w fs vs) : GotL w (s :: fs) (v :: vs) := by
 obtain ⟨x, h1, h2, h3, h4⟩ := h
 obtain ⟨xs, k1, k2, k3, k4⟩ := k
 exact ⟨x :: xs, ⟨x, xs, rfl, h1, k1⟩, ⟨v, vs, rfl, h2, k2⟩, by simp [z0l, h3, k3], by simp [z4u, h4, k4]⟩
theorem zmc {a : Addr} {v : Value} (h : w.cell? a = some v) : (MS.start w).im a.block := zqr h
theorem y54 {agg : Bool} {fs : List Sh} {a : Addr} {len cap sz : Nat} (hsz : sz = fs.length) (hpos : 0 < fs.length) (hagg : agg = false → fs.length = 1) (hlc : len ≤ cap) (hcap : cap ≤ maxLen)
   (h : ∀ i, i < len → ∃ cs', w.cells? base (a.add (i * sz)) sz = some cs' ∧ GotL w fs cs') : Got w (.sl agg fs) (.slice (some a) len cap) := by
 subst hsz
 have h' : ∀ i : Nat, ∃ p : List AV × List Value, i < len → (w.cells? base (a.add (i * fs.length)) fs.length = some p.2 ∧ IsL fs p.1 ∧ z04 (MS.start w) p.1 p.2 ∧ z0l p.1 = true ∧ z4u p.1 = true) := by
   intro i
   by_cases hi : i < len
   · obtain ⟨cs', h1, xs, h2, h3, h4, h5⟩ := h i hi
     exact ⟨(xs, cs'), fun _ => ⟨h1, h2, h3, h4, h5⟩⟩
   · exact ⟨([], []), fun h => absurd h hi⟩
 obtain ⟨p, hp⟩ := Classical.axiomOfChoice h'
 let E : List AV → AV := fun cs => if agg then .agg cs else cs.headD .any
 let V : List Value → Value := fun cs => if agg then .agg cs.toArray else cs.headD undef
 let xs : List AV := (List.range len).map fun i => E (p i).1
 let vs : List Value := (List.range len).map fun i => V (p i).2
 have hone : ∀ i, i < len → (V (p i).2).cells.toList = (p i).2 ∧ VRel (MS.start w) (E (p i).1) (V (p i).2) ∧ (E (p i).1).pure = true := by
   intro i hi
   obtain ⟨q1, q2, q3, q4, q5⟩ := hp i hi
   have hl1 : (p i).1.length = fs.length := zv3 q2
   cases agg with
   | true => exact ⟨by simp [V, Value.cells], ⟨_, rfl, q3⟩, by simp [E, AV.pure, q4]⟩
   | false =>
     have h1 := hagg rfl
     rw [h1] at hl1
     match hc : (p i).1, (p i).2, q3, q4, q5, hl1 with
     | [c], [v], ⟨v', r, hv, hr, hr2⟩, q4, q5, _ =>
       cases hv
       have hno : c.one = true := by simpa [z4u] using q5
       have hcc : c.cells = [c] := by cases c <;> first | rfl | (simp [AV.one] at hno)
       have hca : c.isAny = false := by cases c <;> first | rfl | (simp [AV.one] at hno)
       have hcl := VRel.cells hca hr
       rw [hcc] at hcl
       obtain ⟨u, r2, hu, hu2, hu3⟩ := hcl
       rw [show r2 = [] from hu3] at hu
       have hv1 : v.cells.toList = [v] := by
         have := one_cell hr hno
         cases v <;> first | rfl | (simp [Value.oneCell'] at this)
       exact ⟨by simpa [V] using hv1, by simpa [E, V] using hr, by simpa [E, z0l] using q4⟩
 have hxl : xs.length = len := by simp [xs]
 have hvl : vs.length = len := by simp [vs]
 have hxi : ∀ i, i < len → xs[i]? = some (E (p i).1) := fun i hi => by simp [xs, hi]
 have hvi : ∀ i, i < len → vs[i]? = some (V (p i).2) := fun i hi => by simp [vs, hi]
 have hvs : z04 (MS.start w) xs vs := z04.of_get (by rw [hxl, hvl]) fun i x v hx hv => by
   have hi : i < len := by rw [← hxl]; exact (List.getElem?_eq_some_iff.1 hx).1
   rw [hxi i hi] at hx
   rw [hvi i hi] at hv
   cases hx; cases hv
   exact (hone i hi).2.1
 have hpu : z0l xs = true := z2i.2 fun x hx => by
   obtain ⟨i, hi, rfl⟩ := List.mem_map.1 hx
   exact (hone i (List.mem_range.1 hi)).2.2
 refine ⟨.lst fs.length xs, .inr ⟨xs, rfl, by rw [hxl]; omega, fun y hy => ?_⟩, ⟨hpu, hpos, some a, cap, vs, by rw [hxl], ⟨by rw [hxl]; exact hlc, fun hn => by cases hn⟩, hvs, fun hne => ?_⟩, by simpa [AV.pure] using hpu, rfl⟩
 · obtain ⟨i, hi, rfl⟩ := List.mem_map.1 hy
   exact ⟨_, rfl, (hp i (List.mem_range.1 hi)).2.1⟩
 · have h0 : 0 < len := by rw [← hxl]; exact List.length_pos_iff.2 hne
   obtain ⟨b, o, spot⟩ := a
   have hcell : ∀ i, i < len → ∀ j, j < fs.length → w.cell? ((⟨b, o, spot⟩ : Addr).add (i * fs.length + j)) = (p i).2[j]? := fun i hi j hj => by
     obtain ⟨_, _, hat⟩ := World.cells?_some (hp i hi).1
     rw [← hat j hj, ← Go.Deep.add_add]
   have hlen2 : ∀ i, i < len → (p i).2.length = fs.length := fun i hi => (World.cells?_some (hp i hi).1).2.1
   have hc0 := hcell 0 h0 0 hpos
   rw [List.getElem?_eq_getElem (by rw [hlen2 0 h0]; exact hpos)] at hc0
   have hspot : spot = none := by simpa [Addr.add] using World.cell?_spot hc0
   subst hspot
   have hbk : ∀ k : Nat, ((⟨b, o, none⟩ : Addr).add k).block = b := fun k => by unfold Addr.add; split <;> rfl
   refine ⟨b, o, rfl, by have := zmc hc0; rwa [hbk] at this, fun i v hv => ?_⟩
   have hi : i < len := by rw [← hvl]; exact (List.getElem?_eq_some_iff.1 hv).1
   rw [hvi i hi] at hv
   cases hv
   obtain ⟨e1, _, _⟩ := hone i hi
   have e1' : (V (p i).2).cells = (p i).2.toArray := by simpa using congrArg List.toArray e1
   obtain ⟨_, q2, q3, _, q5⟩ := hp i hi
   refine ⟨by rw [e1']; simp [hlen2 i hi], fun c hc => ?_, fun j hj => ?_⟩
   · rw [e1'] at hc
     exact zcg q3 q5 c (by simpa using hc)
   · rw [e1']
     have := hcell i hi j hj
     have ea : (⟨b, o, none⟩ : Addr).add (i * fs.length + j) = ⟨b, o + i * fs.length + j, none⟩ := by
       unfold Addr.add
       split
       · rename_i hz
         have : i * fs.length = 0 ∧ j = 0 := by simpa using hz
         rw [this.1, this.2]
         rfl
       · simp [Nat.add_assoc]
     rw [ea] at this
     refine this.trans ?_
     simp
theorem zd1 : ∀ {fs : List Sh} {i : Nat} {fl : List Field}, zf2 P fs i fl = true → fl.length = fs.length
 | [], _, [], _ => rfl
 | [], _, _ :: _, h => by simp [zf2] at h
 | _ :: _, _, [], h => by simp [zf2] at h
 | s :: fs, i, f :: fl, h => by
   simp only [zf2, Bool.and_eq_true] at h
   simp [zd1 h.2]
mutual
theorem y55 : ∀ (s : Sh) {t : TypeId} {fuel : Nat} {v : Value} {d : DataW H × List MemPlace}, zf1 P s t = true → DataW.trod enc P w base spare held fuel t [v] = some d → Got w s v
 | .bool, t, fuel, v, d, hf, h => by
   cases fuel with
   | zero => simp [DataW.trod] at h
   | succ n =>
     simp only [zf1] at hf
     split at hf
     · rename_i ht
       unfold DataW.trod at h
       rw [ht] at h
       cases v <;> simp at h
       rename_i b
       exact ⟨.bool b, ⟨b, rfl⟩, rfl, rfl, rfl⟩
     · cases hf
 | .int k, t, fuel, v, d, hf, h => by
   cases fuel with
   | zero => simp [DataW.trod] at h
   | succ n =>
     simp only [zf1] at hf
     split at hf
     · rename_i k' ht
       obtain rfl : k' = k := by simpa using hf
       unfold DataW.trod at h
       rw [ht] at h
       cases v <;> simp at h
       rename_i k2 m
       obtain ⟨⟨rfl, hw⟩, _⟩ := h
       exact ⟨.int k2 m, ⟨m, rfl, hw⟩, rfl, rfl, rfl⟩
     · cases hf
 | .str, t, fuel, v, d, hf, h => by
   cases fuel with
   | zero => simp [DataW.trod] at h
   | succ n =>
     simp only [zf1] at hf
     split at hf
     · rename_i ht
       unfold DataW.trod at h
       rw [ht] at h
       cases v <;> simp at h
       rename_i s
       exact ⟨.str s.data.toList, ⟨_, rfl, by simpa using h.1⟩, rfl, rfl, rfl⟩
     · cases hf
 | .sl agg fs, t, fuel, v, d, hf, h => by
   simp only [zf1] at hf
   split at hf
   · rename_i e ht
     simp only [Bool.and_eq_true, beq_iff_eq, Bool.not_eq_true', List.isEmpty_eq_false_iff] at hf
     obtain ⟨⟨hsz, hne⟩, hfe⟩ := hf
     have hpos : 0 < fs.length := List.length_pos_iff.2 hne
     rcases Go.Deep.open_slice ht h with ⟨hv, _⟩ | ⟨a, len, cap, m, n, D, Pl, hv, hb, hl, hm, hmm, hx, hi⟩
     · cases hv
       exact ⟨.nilS, .inl rfl, rfl, rfl, rfl⟩
     · cases hv
       have hlm : len ≤ m := by rw [hmm]; split <;> omega
       have hag : agg = false → fs.length = 1 := fun ha => by
         subst ha
         simp only [Bool.and_eq_true, beq_iff_eq] at hfe
         exact hfe.1
       refine y54 (base := base) hsz hpos hag hl hm fun i hil => ?_
       obtain ⟨cs', hc, ht'⟩ := hi i (by omega)
       refine ⟨cs', hc, ?_⟩
       have hcl := (World.cells?_some hc).2.1
       cases agg with
       | true =>
         split at hfe
         · rename_i fl _ he
           obtain ⟨ys, n', _, _, _, hlen, hg⟩ := DataW.trod_struct he ht'
           have hfl := zd1 hfe
           exact y56 fs (fl := fl.toList) (i := 0) (cs := cs') hfe (by rw [hcl, hsz]; omega) fun j f hj => by
             have := hg j f (by simpa using hj)
             have hj2 : j < ys.length := by rw [hlen]; have := (List.getElem?_eq_some_iff.1 hj).1; simpa using this
             rw [List.getElem?_eq_getElem hj2] at this
             exact ⟨n', _, this, rfl⟩
         · rename_i n2 u _ he
           simp only [Bool.and_eq_true, beq_iff_eq] at hfe
           obtain ⟨⟨hn, hu⟩, hfa⟩ := hfe
           obtain ⟨ys, n', _, _, hlen, hyl, hg⟩ := DataW.trod_array he ht'
           refine y57 fs (u := u) (cs := cs') (i := 0) hfa (by omega) fun j hj => ?_
           have h1 := hg j (by omega)
           rw [hu, Nat.mul_one] at h1
           have h2 : ys[j]? = some (ys[j]'(by omega)) := List.getElem?_eq_getElem (by omega)
           rw [h2] at h1
           exact ⟨n', _, by rw [Nat.zero_add]; exact h1⟩
         · rename_i hh; cases hh
         · cases hfe
       | false =>
         simp only [Bool.and_eq_true, beq_iff_eq] at hfe
         refine y57 fs (u := e) (cs := cs') (i := 0) hfe.2 (by omega) fun j hj => ?_
         obtain rfl : j = 0 := by omega
         exact ⟨n, _, by rw [List.drop_zero, List.take_of_length_le (by omega)]; exact ht'⟩
   · cases hf
theorem y56 : ∀ (fs : List Sh) {fl : List Field} {i : Nat} {cs : List Value}, zf2 P fs i fl = true → cs.length = i + fs.length →
   (∀ (j : Nat) (f : Field), fl[j]? = some f → ∃ n y, DataW.trod enc P w base spare held n f.type ((cs.drop f.offset).take (P.cellsOf f.type)) = y ∧ y.isSome = true) → GotL w fs (cs.drop i)
 | [], fl, i, cs, hf, hl, h => by
   rw [List.drop_of_length_le (by rw [hl]; simp)]
   exact zoq
 | s :: fs, fl, i, cs, hf, hl, h => by
   cases fl with
   | nil => simp [zf2] at hf
   | cons f fl =>
     simp only [zf2, Bool.and_eq_true, beq_iff_eq] at hf
     obtain ⟨⟨⟨ho, hc⟩, hs⟩, hr⟩ := hf
     have hi : i < cs.length := by rw [hl]; simp
     rw [List.drop_eq_getElem_cons hi]
     obtain ⟨n, y, h1, h2⟩ := h 0 f rfl
     obtain ⟨d, rfl⟩ := Option.isSome_iff_exists.1 h2
     rw [ho, hc, List.drop_eq_getElem_cons hi, List.take_succ_cons, List.take_zero] at h1
     refine zk1 (y55 s hs h1) (y56 fs hr (by rw [hl]; simp; omega) fun j g hj => h (j + 1) g (by simpa using hj))
theorem y57 : ∀ (fs : List Sh) {u : TypeId} {i : Nat} {cs : List Value}, zv4 P fs u = true → cs.length = i + fs.length →
   (∀ j, j < fs.length → ∃ n d, DataW.trod enc P w base spare held n u ((cs.drop (i + j)).take 1) = some d) → GotL w fs (cs.drop i)
 | [], u, i, cs, hf, hl, h => by
   rw [List.drop_of_length_le (by rw [hl]; simp)]
   exact zoq
 | s :: fs, u, i, cs, hf, hl, h => by
   simp only [zv4, Bool.and_eq_true] at hf
   have hi : i < cs.length := by rw [hl]; simp
   rw [List.drop_eq_getElem_cons hi]
   obtain ⟨n, d, h1⟩ := h 0 (by simp)
   rw [Nat.add_zero, List.drop_eq_getElem_cons hi, List.take_succ_cons, List.take_zero] at h1
   refine zk1 (y55 s hf.1 h1) (y57 fs hf.2 (by rw [hl]; simp; omega) fun j hj => ?_)
   have := h (j + 1) (by simp; omega)
   rwa [show i + (j + 1) = i + 1 + j by omega] at this
end
end
open Go.RowKit Go.ChangeShapes Go.WideShapes
inductive PSh where
 | cell (s : Sh)
 | rcd (fs : List Sh)
def IsP : PSh → AV → Prop
 | .cell s, x => Is s x
 | .rcd fs, x => ∃ cs, x = .agg cs ∧ IsL fs cs
def IsPs : List PSh → List AV → Prop
 | [], xs => xs = []
 | p :: ps, xs => ∃ x r, xs = x :: r ∧ IsP p x ∧ IsPs ps r
def y58 (P : Program) : PSh → TypeId → Bool
 | .cell s, t => zf1 P s t
 | .rcd fs, t => match P.underlying t with
   | some (.struct fl) => P.cellsOf t == fs.length && zf2 P fs 0 fl.toList
   | _ => false
def zfy (P : Program) : List PSh → List TypeId → Bool
 | [], [] => true
 | p :: ps, t :: ts => y58 P p t && zfy P ps ts
 | _, _ => false
section
variable {H : Type} {enc : TypeId × Value → H} {P : Program} {w : World} {spare : Nat → Bool} {held : Bool}
theorem zmd {s : Sh} {t : TypeId} {r : Reach} {b0 : Nat} {v : Value} (hf : zf1 P s t = true) (h : Value.okWide P w r b0 t v) : v.cells.toList = [v] := by
 cases s <;> simp only [zf1] at hf <;> split at hf <;> first | (cases hf; done) | skip
 · obtain ⟨b, rfl⟩ := okWide_bool ‹_› h; rfl
 · obtain ⟨b, rfl⟩ := okWide_int ‹_› h; rfl
 · obtain ⟨b, rfl⟩ := okWide_string ‹_› h; rfl
 · obtain ⟨a, l, c, rfl⟩ := okWide_slice ‹_› h; rfl
theorem y59 {p : PSh} {t : TypeId} {r : Reach} {b0 : Nat} {v : Value} {d : DataW H} {ps : List MemPlace} (hf : y58 P p t = true) (hw : Value.okWide P w r b0 t v) (h : DataW.Trod enc P w 0 spare held t v d ps) : ∃ x, IsP p x ∧ VRel (MS.start w) x v := by
 obtain ⟨fuel, h⟩ := h
 cases p with
 | cell s =>
   rw [zmd hf hw] at h
   obtain ⟨x, h1, h2, _⟩ := y55 s hf h
   exact ⟨x, h1, h2⟩
 | rcd fs =>
   simp only [y58] at hf
   split at hf
   · rename_i fl ht
     simp only [Bool.and_eq_true, beq_iff_eq] at hf
     obtain ⟨cs, rfl, hc⟩ := okWide_struct ht hw
     obtain ⟨ys, n', _, _, _, hlen, hg⟩ := DataW.trod_struct ht h
     have hfl := zd1 hf.2
     obtain ⟨xs, h1, h2, _⟩ := y56 fs (fl := fl.toList) (i := 0) (cs := cs.toList) hf.2 (by simp; omega) fun j f hj => by
       have := hg j f (by simpa using hj)
       have hj2 : j < ys.length := by rw [hlen]; have := (List.getElem?_eq_some_iff.1 hj).1; simpa using this
       rw [List.getElem?_eq_getElem hj2] at this
       exact ⟨n', _, this, rfl⟩
     exact ⟨.agg xs, ⟨xs, rfl, h1⟩, cs.toList, by simp, by simpa using h2⟩
   · cases hf
theorem zor : ∀ {ps : List PSh} {ts : List TypeId} {vs : List Value} {ds : List (DataW H)} {q : List MemPlace} {r : Reach} {b0 : Nat}, zfy P ps ts = true → (∀ (j : Nat) t v, ts[j]? = some t → vs[j]? = some v → Value.okWide P w r b0 t v) →
   DataW.TrodAll enc P w 0 spare held ts vs ds q → ∃ xs, IsPs ps xs ∧ z04 (MS.start w) xs vs
 | [], [], [], [], _, _, _, _, _, _ => ⟨[], rfl, rfl⟩
 | p :: ps, t :: ts, v :: vs, d :: ds, _, _, _, hf, hw, ⟨a, b, h1, h2, _⟩ => by
   simp only [zfy, Bool.and_eq_true] at hf
   obtain ⟨x, k1, k2⟩ := y59 hf.1 (hw 0 t v rfl rfl) h1
   obtain ⟨xs, k3, k4⟩ := zor hf.2 (fun j t v ht hv => hw (j + 1) t v (by simpa using ht) (by simpa using hv)) h2
   exact ⟨x :: xs, ⟨x, xs, rfl, k1, k3⟩, v, vs, rfl, k2, k4⟩
 | [], _ :: _, _, _, _, _, _, hf, _, _ => by simp [zfy] at hf
 | _ :: _, [], _, _, _, _, _, hf, _, _ => by simp [zfy] at hf
 | [], [], _ :: _, _, _, _, _, _, _, h => h.elim
 | [], [], [], _ :: _, _, _, _, _, _, h => h.elim
 | _ :: _, _ :: _, [], _, _, _, _, _, _, h => by cases ‹List (DataW H)› <;> exact h.elim
 | _ :: _, _ :: _, _ :: _, [], _, _, _, _, _, h => h.elim
def zv5 (P : Program) (ts : List TypeId) : Bool := ts.all fun t => P.readableRec t && decide (t < P.types.size)
theorem zd2 {W W' : World} (hl : laidOutB P = true) (hb : Below W.heap.size W W') : ∀ {ts : List TypeId} {vs : List Value} {ds : List (DataW H)} {ps : List MemPlace}, zv5 P ts = true → (∀ x ∈ ps, x.block < W.heap.size) →
   DataW.TrodAll enc P W 0 (fun _ => true) true ts vs ds ps → DataW.TrodAll enc P W' 0 (fun b => decide (b < W.heap.size)) true ts vs ds ps
 | [], [], [], _, _, _, h => h
 | t :: ts, v :: vs, d :: ds, _, hr, hlt, ⟨a, b, h1, h2, e⟩ => by
   subst e
   simp only [zv5, List.all_cons, Bool.and_eq_true, decide_eq_true_eq] at hr
   exact ⟨a, b, Below.trod hl hr.1.1 hr.1.2 h1 hb (fun x hx => hlt x (List.mem_append_left _ hx)), zd2 hl hb (by simpa [zv5] using hr.2) (fun x hx => hlt x (List.mem_append_right _ hx)) h2, rfl⟩
 | [], [], _ :: _, _, _, _, h => h.elim
 | [], _ :: _, _, _, _, _, h => by cases ‹List (DataW H)› <;> exact h.elim
 | _ :: _, [], _, _, _, _, h => by cases ‹List (DataW H)› <;> exact h.elim
 | _ :: _, _ :: _, [], _, _, _, h => h.elim
theorem zk2 {f : Nat} {ps : List PSh} {ts : List TypeId} (hf : zfy P ps ts = true) (h : ∀ xs, IsPs ps xs → PC P f xs (.bool true)) {args : Array Value} {ds : List (DataW H)} {q : List MemPlace} {r : Reach} {b0 : Nat}
   (hw : ∀ (j : Nat) t v, ts[j]? = some t → args.toList[j]? = some v → Value.okWide P w r b0 t v) (hA : DataW.TrodAll enc P w 0 spare held ts args.toList ds q) :
   Calls P f args w fun e w' => e = .returned (.bool true) ∧ Below w.heap.size w w' := by
 obtain ⟨xs, h1, h2⟩ := zor hf hw hA
 have := (h xs h1).below h2
 simpa using this
end
end Go.Proofs.Yticodgjinajkpaa.Abs
