/-
  The operations of the model do what 'stepA' says: those that change no memory.
-/
import Derived.Test.YtdmjhlofphhldaaAbs4
set_option linter.unusedSimpArgs false
set_option linter.unusedVariables false
namespace Go.Proofs.Ytdmjhlofphhldaa.Abs

/-- What an operation came to: a value that means x, in a state whose groups are H'; or a call. -/
def OpOk (P : Program) (S : MS) (r : Result Next) (K : AV → AHeap → Prop) : Prop :=
  (∃ v S' x H', (r = .ok (.value v) S'.w ∨ (r = .ok .skip S'.w ∧ v = undef)) ∧ Evo S S' ∧ SRel S' H' ∧ VRel S' x v ∧ K x H') ∨
  (∃ f cargs, r = .ok (.enter f cargs) S.w ∧ Calls P f cargs S.w fun e w' => ∃ v S' x H', e = .returned v ∧ S'.w = w' ∧ Evo S S' ∧ SRel S' H' ∧ VRel S' x v ∧ K x H')

theorem ok_value {P : Program} {S : MS} {H : AHeap} {r : Result Next} {K : AV → AHeap → Prop} {v : Value} {x : AV} (hr : r = .ok (.value v) S.w) (hS : SRel S H) (hv : VRel S x v) (hK : K x H) : OpOk P S r K :=
  .inl ⟨v, S, x, H, .inl hr, .refl S, hS, hv, hK⟩

section
variable {P : Program} {S : MS} {H : AHeap} {ρ : Operand → Value} {K : AV → AHeap → Prop}

theorem VsRel.inv1 {x : AV} {v : Value} (h : VsRel S [x] [v]) : VRel S x v := h.cons_inv.1
theorem VsRel.inv2 {x y : AV} {u v : Value} (h : VsRel S [x, y] [u, v]) : VRel S x u ∧ VRel S y v := ⟨h.cons_inv.1, h.cons_inv.2.cons_inv.1⟩
theorem VsRel.len1 {xs : List AV} {v : Value} (h : VsRel S xs [v]) : ∃ x, xs = [x] ∧ VRel S x v := by
  match xs, h with
  | [x], h => exact ⟨x, rfl, h.inv1⟩
  | [], h => simp [VsRel] at h
  | _ :: _ :: _, h => have := h.length; simp at this
theorem VsRel.len2 {xs : List AV} {u v : Value} (h : VsRel S xs [u, v]) : ∃ x y, xs = [x, y] ∧ VRel S x u ∧ VRel S y v := by
  match xs, h with
  | [x, y], h => exact ⟨x, y, rfl, h.inv2⟩
  | [], h => have := h.length; simp at this
  | [_], h => have := h.length; simp at this
  | _ :: _ :: _ :: _, h => have := h.length; simp at this
theorem VsRel.len3 {xs : List AV} {u v z : Value} (h : VsRel S xs [u, v, z]) : ∃ x y t, xs = [x, y, t] ∧ VRel S x u ∧ VRel S y v ∧ VRel S t z := by
  match xs, h with
  | [x, y, t], h => exact ⟨x, y, t, rfl, h.cons_inv.1, h.cons_inv.2.inv2⟩
  | [], h => have := h.length; simp at this
  | [_], h => have := h.length; simp at this
  | [_, _], h => have := h.length; simp at this
  | _ :: _ :: _ :: _ :: _, h => have := h.length; simp at this

theorem s_mv (hS : SRel S H) {v : Value} {xs : List AV} (hx : VsRel S xs [v]) (h : stepA P .mv H xs K) : OpOk P S ((pure (.value v) : Sem Next).run P S.w) K := by
  obtain ⟨x, rfl, hv⟩ := hx.len1
  exact ok_value rfl hS hv h

theorem s_pick (hS : SRel S H) {c a b : Value} {xs : List AV} (hx : VsRel S xs [c, a, b]) (h : stepA P .pick H xs K) :
    OpOk P S ((do pure (Next.value (if ← asBool c then a else b)) : Sem Next).run P S.w) K := by
  obtain ⟨x, y, t, rfl, hc, ha, hb⟩ := hx.len3
  cases x <;> simp only [stepA] at h <;> try exact h.elim
  rename_i q
  obtain rfl : c = .bool q := hc
  cases q
  · exact ok_value (by simp [asBool]) hS hb h
  · exact ok_value (by simp [asBool]) hS ha h

theorem int_beq (a b : Int) : (a == b) = decide (a = b) := by rw [Bool.eq_iff_iff]; simp

/-- binOp at two ints. -/
theorem run_binI (op : BinOp) (t : TypeId) (k k' : IntKind) (a b : Int) (x y : Operand) {K : AV → Prop} (hk : k = k') (h : binI op k a b K) :
    ∃ (z : AV) (v : Value), VRel S z v ∧ K z ∧ (do eqGuard op t x y (.int k a) (.int k' b); binOp op t (.int k a) (.int k' b) : Sem Value).run P S.w = .ok v S.w := by
  subst hk
  cases op <;> simp only [binI] at h
  case quo => exact ⟨.int k _, .int k _, rfl, h.2, by simp [eqGuard, binOp, Op.intDiv, h.1]⟩
  case rem => exact ⟨.int k _, .int k _, rfl, h.2, by simp [eqGuard, binOp, Op.intDiv, h.1]⟩
  case eql => exact ⟨.bool _, .bool _, rfl, h, by simp [eqGuard, binOp, Op.intCmp, int_beq]⟩
  case neq => exact ⟨.bool _, .bool _, rfl, h, by simp [eqGuard, binOp, Op.intCmp, bne, int_beq]⟩
  case lss => exact ⟨.bool _, .bool _, rfl, h, by simp [eqGuard, binOp, Op.intCmp]⟩
  case leq => exact ⟨.bool _, .bool _, rfl, h, by simp [eqGuard, binOp, Op.intCmp]⟩
  case gtr => exact ⟨.bool _, .bool _, rfl, h, by simp [eqGuard, binOp, Op.intCmp]⟩
  case geq => exact ⟨.bool _, .bool _, rfl, h, by simp [eqGuard, binOp, Op.intCmp]⟩
  case add => exact ⟨.int k _, .int k _, rfl, h, by simp [eqGuard, binOp, Op.intArith]⟩
  case sub => exact ⟨.int k _, .int k _, rfl, h, by simp [eqGuard, binOp, Op.intArith]⟩
  case mul => exact ⟨.int k _, .int k _, rfl, h, by simp [eqGuard, binOp, Op.intArith]⟩
  case and => exact ⟨.int k _, .int k _, rfl, h, by simp [eqGuard, binOp, Op.intBits, bitsI]⟩
  case or => exact ⟨.int k _, .int k _, rfl, h, by simp [eqGuard, binOp, Op.intBits, bitsI]⟩
  case xor => exact ⟨.int k _, .int k _, rfl, h, by simp [eqGuard, binOp, Op.intBits, bitsI]⟩
  case andNot => exact ⟨.int k _, .int k _, rfl, h, by simp [eqGuard, binOp, Op.intBits, bitsI]⟩

theorem bytes_list (s : List UInt8) : (⟨s.toArray⟩ : ByteArray).toList = s := by
  rw [ByteArray.toList_eq]

theorem beq_dec (a b : List UInt8) : (a == b) = decide (a = b) := by rw [Bool.eq_iff_iff]; simp

theorem s_bin (hS : SRel S H) (op : BinOp) (t : TypeId) {u v : Value} (x y : Operand) {xs : List AV} (hx : VsRel S xs [u, v]) (h : stepA P (.bin op) H xs K) :
    OpOk P S ((do pure (Next.value (← (do eqGuard op t x y u v; binOp op t u v : Sem Value))) : Sem Next).run P S.w) K := by
  obtain ⟨p, q, rfl, hp, hq⟩ := hx.len2
  cases p <;> cases q <;> simp only [stepA] at h <;> try exact h.elim
  · rename_i k a k' b
    obtain rfl : u = .int k a := hp
    obtain rfl : v = .int k' b := hq
    by_cases h1 : op = .shl
    · subst h1
      have h' : 0 ≤ b ∧ K (.int k (k.wrap (a * 2 ^ (Min.min b.toNat k.bits)))) H := h
      exact ok_value (x := .int k _) (by simp [eqGuard, binOp, Op.shift, Int.not_lt.2 h'.1]) hS rfl h'.2
    · by_cases h2 : op = .shr
      · subst h2
        have h' : 0 ≤ b ∧ K (.int k (a.fdiv (2 ^ (Min.min b.toNat k.bits)))) H := h
        exact ok_value (x := .int k _) (by simp [eqGuard, binOp, Op.shift, Int.not_lt.2 h'.1]) hS rfl h'.2
      · have h' : k = k' ∧ binI op k a b fun x => K x H := by cases op <;> first | exact h | exact absurd rfl h1 | exact absurd rfl h2
        obtain ⟨_, v, h3, h4, h5⟩ := run_binI (P := P) (S := S) op t k k' a b x y h'.1 h'.2
        exact ok_value (by simp only [Sem.run_bind, h5, Result.andThen_ok, Sem.run_pure]) hS h3 h4
  · rename_i a b
    obtain rfl : u = .string ⟨a.toArray⟩ := hp
    obtain rfl : v = .string ⟨b.toArray⟩ := hq
    cases op <;> first | exact h.elim | skip
    · exact ok_value (x := .bool _) (v := .bool (decide (a = b))) (by simp [eqGuard, binOp, Op.stringOp, bytes_list, beq_dec]) hS rfl h
    · exact ok_value (x := .bool _) (v := .bool (!decide (a = b))) (by simp [eqGuard, binOp, Op.stringOp, bytes_list, beq_dec]) hS rfl h

theorem s_eqb (hS : SRel S H) (neg : Bool) (t : TypeId) (ht : P.underlying t = some .bool) {u v : Value} (x y : Operand) {xs : List AV} (hx : VsRel S xs [u, v]) (h : stepA P (.eqb neg) H xs K) :
    OpOk P S ((do pure (Next.value (← (do eqGuard (if neg then .neq else .eql) t x y u v; binOp (if neg then .neq else .eql) t u v : Sem Value))) : Sem Next).run P S.w) K := by
  obtain ⟨p, q, rfl, hp, hq⟩ := hx.len2
  cases p <;> cases q <;> simp only [stepA] at h <;> try exact h.elim
  rename_i a b
  obtain rfl : u = .bool a := hp
  obtain rfl : v = .bool b := hq
  have e : (Op.equal t (.bool a) (.bool b)).run P S.w = .ok (a == b) S.w := run_equalIn_bool' S.w 9999 t a b ht
  cases neg
  · exact ok_value (x := .bool _) (by simp [eqGuard, binOp, e]) hS rfl h
  · exact ok_value (x := .bool _) (by simp [eqGuard, binOp, e]) hS rfl h

theorem run_eq1 {d : Nat} {t : TypeId} {dd : TypeDesc} {k : Nat} (ht : P.underlying t = some dd) (hp : plainD dd = some k) {x y : AV} {u v : Value} {b : Bool} (hx : VRel S x u) (hy : VRel S y v) (h : eq1 k x y = some b) :
    (Op.equalIn (d + 1) t u v).run P S.w = .ok b S.w := by
  cases dd <;> simp only [plainD, Option.some.injEq, reduceCtorEq] at hp
  all_goals subst hp
  all_goals cases x <;> cases y <;> simp only [eq1] at h <;> first | (cases h; done) | skip
  · rename_i a c
    obtain rfl : u = .bool a := hx
    obtain rfl : v = .bool c := hy
    rw [run_equalIn_bool' (P := P) S.w d t a c ht, Option.some.inj h]
  · rename_i k0 k a k' c
    obtain rfl : u = .int k a := hx
    obtain rfl : v = .int k' c := hy
    split at h
    · rename_i hk
      subst hk
      rw [run_equalIn_int (P := P) S.w d t k _ a c ht, int_beq, Option.some.inj h]
    · cases h
  · rename_i a c
    obtain rfl : u = .string ⟨a.toArray⟩ := hx
    obtain rfl : v = .string ⟨c.toArray⟩ := hy
    rw [run_equalIn_string (P := P) S.w d t _ _ ht, bytes_list, bytes_list, beq_dec, Option.some.inj h]

theorem run_eqL {d : Nat} : ∀ {fs : List Field} {i : Nat} {ks : List Nat} {xs ys : List AV} {us vs : List Value} {b : Bool} (pre pre' : List Value), plainFields P i fs = some ks → VsRel S xs us → VsRel S ys vs →
    eqL ks xs ys = some b → pre.length = i → pre'.length = i → (Op.eqFields (d + 1) (pre ++ us).toArray (pre' ++ vs).toArray fs).run P S.w = .ok b S.w
  | [], i, ks, xs, ys, us, vs, b, pre, pre', hf, hx, hy, h, _, _ => by
    simp only [plainFields, Option.some.injEq] at hf
    subst hf
    cases xs <;> cases ys <;> simp only [eqL, Option.some.injEq, reduceCtorEq] at h
    subst h
    simp [Op.eqFields]
  | f :: fs, i, ks, xs, ys, us, vs, b, pre, pre', hf, hx, hy, h, hp, hp' => by
    simp only [plainFields] at hf
    split at hf
    · rename_i hc
      simp only [Bool.and_eq_true, beq_iff_eq, bne_iff_ne, ne_eq] at hc
      split at hf
      · rename_i k ks' hk hks
        cases hf
        cases xs with
        | nil => simp [eqL] at h
        | cons x xs =>
          cases ys with
          | nil => simp [eqL] at h
          | cons y ys =>
            obtain ⟨u, us', rfl, hu, hus⟩ := hx
            obtain ⟨v, vs', rfl, hv, hvs⟩ := hy
            simp only [eqL] at h
            split at h
            · rename_i b1 b2 h1 h2
              cases h
              obtain ⟨dd, hd, hpd⟩ := Option.bind_eq_some_iff.1 hk
              have hn : isAggD dd = false := by cases dd <;> simp [plainD] at hpd <;> rfl
              have part1 : ∀ (p : List Value) (z : Value) (zs : List Value), p.length = i → (part f.type (p ++ z :: zs).toArray f.offset).run P S.w = .ok z S.w := by
                intro p z zs hpl
                have hag : (isAgg f.type).run P S.w = .ok false S.w := by
                  simp only [isAgg, Sem.run_bind, run_underlying hd, Result.andThen_ok]
                  cases dd <;> simp [isAggD] at hn <;> rfl
                simp only [part, Sem.run_bind, hag, Result.andThen_ok]
                rw [hc.1, ← hpl]
                simp
              have ih := run_eqL (d := d) (pre ++ [u]) (pre' ++ [v]) hks hus hvs h2 (by simp [hp]) (by simp [hp'])
              simp only [List.append_assoc, List.singleton_append] at ih
              simp only [Op.eqFields, hc.2, not_false_eq_true, if_true, ne_eq, Sem.run_bind, part1 pre u us' hp, part1 pre' v vs' hp', Result.andThen_ok, run_eq1 (P := P) (d := d) hd hpd hu hv h1]
              cases b1
              · simp
              · simpa using ih
            · cases h
      · cases hf
    · cases hf

theorem s_eqs (hS : SRel S H) (neg : Bool) (ks : List Nat) (t : TypeId) {fs : Array Field} (ht : P.underlying t = some (.struct fs)) (hf : plainFields P 0 fs.toList = some ks) (h1 : P.stoodInHeld t = false) (h2 : P.eqGuardType P.depth t = false)
    {u v : Value} (x y : Operand) {xs : List AV} (hx : VsRel S xs [u, v]) (h : stepA P (.eqs neg ks) H xs K) :
    OpOk P S ((do pure (Next.value (← (do eqGuard (if neg then .neq else .eql) t x y u v; binOp (if neg then .neq else .eql) t u v : Sem Value))) : Sem Next).run P S.w) K := by
  obtain ⟨p, q, rfl, hp, hq⟩ := hx.len2
  cases p <;> cases q <;> simp only [stepA] at h <;> try exact h.elim
  rename_i as bs
  obtain ⟨us, rfl, hu⟩ := hp
  obtain ⟨vs, rfl, hv⟩ := hq
  · obtain ⟨b, hb, h⟩ := optK_elim h
    have ht' : P.underlying t = some (.struct (P.fieldsOf t)) := by simp [Program.fieldsOf, ht]
    have e : (Op.equalIn 10000 t (.agg us.toArray) (.agg vs.toArray)).run P S.w = .ok b S.w := by
      rw [run_equalIn_agg S.w 9999 t us.toArray vs.toArray ht' h1]
      have : (P.fieldsOf t) = fs := by simp [Program.fieldsOf, ht]
      rw [this]
      exact run_eqL (d := 9998) [] [] hf hu hv hb rfl rfl
    have g : ∀ op, (eqGuard op t x y (.agg us.toArray) (.agg vs.toArray)).run P S.w = .ok () S.w := fun op => run_eqGuard_agg S.w op t x y _ _ h2
    cases neg
    · exact ok_value (x := .bool _) (by simp only [Sem.run_bind, Bool.false_eq_true, if_false, g, Result.andThen_ok, run_eql_struct, e]; rfl) hS rfl h
    · exact ok_value (x := .bool _) (by simp only [Sem.run_bind, if_true, g, Result.andThen_ok, run_neq_struct, e]; rfl) hS rfl h

theorem s_eqn (hS : SRel S H) (neg : Bool) (t : TypeId) {e : TypeId} (ht : P.underlying t = some (.slice e)) {u v : Value} (x y : Operand) {xs : List AV} (hx : VsRel S xs [u, v]) (h : stepA P (.eqn neg) H xs K) :
    OpOk P S ((do pure (Next.value (← (do eqGuard (if neg then .neq else .eql) t x y u v; binOp (if neg then .neq else .eql) t u v : Sem Value))) : Sem Next).run P S.w) K := by
  obtain ⟨p, q, rfl, hp, hq⟩ := hx.len2
  have key0 : ∀ (d : Nat) (a : Option Addr) (n c : Nat), (Op.equalIn (d + 1) t (.slice a n c) (.slice none 0 0)).run P S.w = .ok a.isNone S.w := by
    intro d a n c
    cases a <;> simp [Op.equalIn, run_underlying ht]
  have key : ∀ (a : Option Addr) (n c : Nat), (Op.equal t (.slice a n c) (.slice none 0 0)).run P S.w = .ok a.isNone S.w := key0 9999
  have fin : ∀ (a : Option Addr) (n c : Nat) (b : Bool), u = .slice a n c → v = .slice none 0 0 → a.isNone = b → K (.bool (if neg then !b else b)) H → OpOk P S ((do pure (Next.value (← (do eqGuard (if neg then .neq else .eql) t x y u v; binOp (if neg then .neq else .eql) t u v : Sem Value))) : Sem Next).run P S.w) K := by
    intro a n c b hu hv hb hK
    subst hu hv hb
    cases neg
    · exact ok_value (x := .bool _) (by simp [eqGuard, binOp, key]) hS rfl hK
    · exact ok_value (x := .bool _) (by simp [eqGuard, binOp, key]) hS rfl hK
  cases q <;> simp only [stepA] at h <;> try exact h.elim
  cases p <;> simp only at h <;> try exact h.elim
  · exact fin none 0 0 true hp hq rfl (by cases neg <;> exact h)
  · obtain ⟨a, cap, hp⟩ := hp
    exact fin _ _ _ false hp hq rfl (by cases neg <;> exact h)
  · obtain ⟨_, _, a, cap, vs, hp, _, _, hr⟩ := hp
    obtain ⟨b, o, ha, _⟩ := hr h.1
    exact fin _ _ _ false hp hq (by rw [ha]; rfl) (by cases neg <;> exact h.2)
  · obtain ⟨_, _, a, vs, hp, _, _, hr⟩ := hp
    obtain ⟨b, o, ha, _⟩ := hr h.1
    exact fin _ _ _ false hp hq (by rw [ha]; rfl) (by cases neg <;> exact h.2)
  · obtain ⟨⟨a, c, hp, ha⟩, _⟩ := hp
    have : a.isNone = false := by
      cases a with
      | none => have := ha rfl; have := h.1; omega
      | some _ => rfl
    exact fin _ _ _ false hp hq this (by cases neg <;> exact h.2)

theorem s_un (hS : SRel S H) (op : UnOp) {v : Value} {xs : List AV} (hx : VsRel S xs [v]) (h : stepA P (.un op) H xs K) :
    OpOk P S ((do pure (Next.value (← Op.unary op v)) : Sem Next).run P S.w) K := by
  obtain ⟨x, rfl, hv⟩ := hx.len1
  cases op <;> cases x <;> simp only [stepA] at h <;> try exact h.elim
  · rename_i k n
    obtain rfl : v = .int k n := hv
    exact ok_value (x := .int k _) (by simp [Op.unary, Op.intArith]) hS rfl h
  · rename_i b
    obtain rfl : v = .bool b := hv
    exact ok_value (x := .bool _) (by simp [Op.unary]) hS rfl h

theorem s_conv (hS : SRel S H) (src dst : TypeId) {k k0 : IntKind} (hs : P.underlying src = some (.int k0)) (hd : P.underlying dst = some (.int k)) {v : Value} {xs : List AV} (hx : VsRel S xs [v]) (h : stepA P (.conv k) H xs K) :
    OpOk P S ((do pure (Next.value (← convert src dst v)) : Sem Next).run P S.w) K := by
  obtain ⟨x, rfl, hv⟩ := hx.len1
  cases x <;> simp only [stepA] at h <;> try exact h.elim
  rename_i k1 n
  obtain rfl : v = .int k1 n := hv
  exact ok_value (x := .int k _) (by simp [convert, run_underlying hs, run_underlying hd, Conv.intToInt]) hS rfl h

theorem s_len (hS : SRel S H) (t ty : TypeId) (cs : Array Bool) (ts : Array TypeId) {e : TypeId} (h0 : ts[0]? = some t) (ht : P.underlying t = some (.slice e)) {v : Value} {xs : List AV} (hx : VsRel S xs [v]) (h : stepA P (.len false) H xs K) :
    OpOk P S ((builtin .len ts ty cs #[v]).run P S.w) K := by
  obtain ⟨x, rfl, hv⟩ := hx.len1
  cases x <;> simp only [stepA] at h <;> try exact h.elim
  · obtain rfl : v = .slice none 0 0 := hv
    exact ok_value (x := .int .i64 _) (v := .int .i64 _) (by simp [builtin, Builtin.len_, h0, run_underlying ht, goInt]) hS rfl h
  · obtain ⟨a, rfl⟩ := hv
    exact ok_value (x := .int .i64 _) (v := .int .i64 _) (by simp [builtin, Builtin.len_, h0, run_underlying ht, goInt]) hS rfl h
  · obtain ⟨a, cap, rfl⟩ := hv
    exact ok_value (x := .int .i64 _) (v := .int .i64 _) (by simp [builtin, Builtin.len_, h0, run_underlying ht, goInt]) hS rfl h
  · obtain ⟨_, _, a, cap, vs, rfl, _⟩ := hv
    exact ok_value (x := .int .i64 _) (v := .int .i64 _) (by simp [builtin, Builtin.len_, h0, run_underlying ht, goInt]) hS rfl h
  · obtain ⟨_, _, a, vs, rfl, _⟩ := hv
    exact ok_value (x := .int .i64 _) (v := .int .i64 _) (by simp [builtin, Builtin.len_, h0, run_underlying ht, goInt]) hS rfl h
  · obtain ⟨⟨a, c, rfl, _⟩, _⟩ := hv
    exact ok_value (x := .int .i64 _) (v := .int .i64 _) (by simp [builtin, Builtin.len_, h0, run_underlying ht, goInt]) hS rfl h

theorem bsize (s : List UInt8) : (⟨s.toArray⟩ : ByteArray).size = s.length := rfl

theorem s_lenS (hS : SRel S H) (t ty : TypeId) (cs : Array Bool) (ts : Array TypeId) (h0 : ts[0]? = some t) (ht : P.underlying t = some .string) {v : Value} {xs : List AV} (hx : VsRel S xs [v]) (h : stepA P (.len true) H xs K) :
    OpOk P S ((builtin .len ts ty cs #[v]).run P S.w) K := by
  obtain ⟨x, rfl, hv⟩ := hx.len1
  cases x <;> simp only [stepA] at h <;> try exact h.elim
  obtain rfl : v = .string _ := hv
  exact ok_value (x := .int .i64 _) (v := .int .i64 _) (by simp [builtin, Builtin.len_, h0, run_underlying ht, goInt, bsize]) hS rfl h

end
end Go.Proofs.Ytdmjhlofphhldaa.Abs
