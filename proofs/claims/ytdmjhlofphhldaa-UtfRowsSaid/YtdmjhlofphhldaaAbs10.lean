/-
  Every operation that 'compK' reads does what 'stepA' says.
-/
import Derived.Test.YtdmjhlofphhldaaAbsM
set_option linter.unusedSimpArgs false
set_option linter.unusedVariables false
namespace Go.Proofs.Ytdmjhlofphhldaa.Abs
section
variable {P : Program} {S : MS} {H : AHeap} {ρ : Operand → Value} {K : AV → AHeap → Prop}

theorem step_sound (hS : SRel S H) (o : Oper) {k : AK} (hk : compK P o.op = some k) {xs : List AV} (hx : VsRel S xs (o.op.operands.toList.map ρ)) (h : stepA P k H xs K) : OpOk P S ((execOp ρ o).run P S.w) K := by
  obtain ⟨dst, op, type, pos, after, guard⟩ := o
  cases op with
  | move x => cases hk; exact s_mv hS (by simpa [Op.operands] using hx) h
  | assign x => cases hk; exact s_mv hS (by simpa [Op.operands] using hx) h
  | pick c a b => cases hk; exact s_pick hS (by simpa [Op.operands] using hx) h
  | alloc t =>
    simp only [compK] at hk
    split at hk
    · rename_i i hi
      split at hk
      · rename_i z hz
        split at hk
        · rename_i x hzx
          split at hk
          · rename_i hc
            cases hk
            simp only [Bool.and_eq_true, decide_eq_true_eq, Array.all_eq_true_iff_forall_mem] at hc
            have : xs = [] := by have := hx.length; simpa [Op.operands] using this.symm
            subst this
            exact s_alloc hS t hi hz hzx hc.1 hc.2 h
          · cases hk
        · cases hk
      · cases hk
    · cases hk
  | box t x => cases hk; exact s_box hS t (by simpa [Op.operands] using hx) h
  | build t ps =>
    have hx' : VsRel S xs (ps.toList.map fun p => ρ p.2) := by simpa [Op.operands, List.map_map, Function.comp_def] using hx
    simp only [compK] at hk
    split at hk
    · rename_i fs i ht hi
      split at hk
      · rename_i z hz
        split at hk
        · rename_i x hzx
          split at hk
          · rename_i pl hpl
            split at hk
            · rename_i hc
              cases hk
              simp only [Bool.and_eq_true] at hc
              have hag : ∃ cs, z = .agg cs := by cases z <;> simp [isAggV] at hc <;> exact ⟨_, rfl⟩
              exact s_build hS t ht hi hz hzx hpl hag ps.toList hx' h
            · cases hk
          · cases hk
        · cases hk
      · cases hk
    · rename_i n e i ht hi
      split at hk
      · rename_i z hz
        split at hk
        · rename_i x hzx
          split at hk
          · rename_i j hj
            split at hk
            · rename_i hc
              cases hk
              simp only [Bool.and_eq_true] at hc
              have hag : ∃ cs, z = .agg cs := by cases z <;> simp [isAggV] at hc <;> exact ⟨_, rfl⟩
              exact s_buildA hS t ht hi hz hzx hj hag ps.toList hx' h
            · cases hk
          · cases hk
        · cases hk
      · cases hk
    · cases hk
  | buildSlice t len ps =>
    have hx' : VsRel S xs (ps.toList.map fun p => ρ p.2) := by simpa [Op.operands, List.map_map, Function.comp_def] using hx
    simp only [compK] at hk
    split at hk
    · rename_i e ht
      split at hk
      · rename_i i hi
        split at hk
        · rename_i z hz
          split at hk
          · rename_i x hzx
            split at hk
            · rename_i hc
              cases hk
              simp only [Bool.and_eq_true, decide_eq_true_eq, beq_iff_eq, Array.all_eq_true_iff_forall_mem] at hc
              exact s_bslice hS t len ht hi hz hzx hc.1.1.1 hc.1.1.2 hc.1.2 hc.2 ps.toList hx' h
            · cases hk
          · cases hk
        · cases hk
      · cases hk
    · cases hk
  | load t a =>
    obtain ⟨⟨a, s⟩, hs, rfl⟩ := Option.map_eq_some_iff.1 hk
    exact s_load hS t hs (by simpa [Op.operands] using hx) h
  | store t a v =>
    obtain ⟨⟨a, s⟩, hs, rfl⟩ := Option.map_eq_some_iff.1 hk
    exact s_store hS t hs (by simpa [Op.operands] using hx) h
  | nilCheck x => cases hk; exact s_nilCheck hS (v := ρ x) (by simpa [Op.operands] using hx) h x _ rfl rfl
  | binOp op t x y yt =>
    have hx' : VsRel S xs [ρ x, ρ y] := by simpa [Op.operands] using hx
    simp only [compK] at hk
    split at hk
    · rename_i hc
      have hop : op = if (op == .neq) then .neq else .eql := by
        cases op <;> simp at hc <;> rfl
      split at hk
      · rename_i ht
        cases hk
        have := s_eqb hS (op == .neq) t ht x y hx' h
        rw [← hop] at this
        exact this
      · cases hk; exact s_bin hS op t x y hx' h
      · cases hk; exact s_bin hS op t x y hx' h
      · rename_i fs ht
        split at hk
        · rename_i hc2
          obtain ⟨ks, hks, rfl⟩ := Option.map_eq_some_iff.1 hk
          simp only [Bool.and_eq_true, Bool.not_eq_true'] at hc2
          have := s_eqs hS (op == .neq) ks t ht hks hc2.1 hc2.2 x y hx' h
          rw [← hop] at this
          exact this
        · cases hk
      · rename_i e ht
        cases hk
        have := s_eqn hS (op == .neq) t ht x y hx' h
        rw [← hop] at this
        exact this
      · cases hk
    · cases hk; exact s_bin hS op t x y hx' h
  | unOp op t x => cases hk; exact s_un hS op (by simpa [Op.operands] using hx) h
  | convert src dst' x =>
    have hx' : VsRel S xs [ρ x] := by simpa [Op.operands] using hx
    simp only [compK] at hk
    split at hk
    · rename_i hs hd; cases hk; exact s_conv hS src dst' hs hd hx' h
    · rename_i e hs hd
      split at hk
      · rename_i he; cases hk; exact s_toStr hS src dst' e hs hd he hx' h
      · cases hk
    · cases hk
  | slice t x lo hi mx =>
    simp only [compK] at hk
    split at hk
    · rename_i e ht
      split at hk
      · rename_i i hi'
        split at hk
        · rename_i h0
          cases hk
          have hlen : ∀ (o : Option Operand), (o.map ρ).isSome = o.isSome := fun o => by cases o <;> rfl
          have hx' : VsRel S xs (ρ x :: ((lo.map ρ).toList ++ ((hi.map ρ).toList ++ ((mx.map ρ).toList ++ [])))) := by
            cases lo <;> cases hi <;> cases mx <;> simpa [Op.operands] using hx
          refine s_slice hS ht hi' h0 hx' ?_
          rw [hlen, hlen, hlen]
          exact h
        · cases hk
      · cases hk
    · cases hk
  | fieldAddr t x f =>
    simp only [compK] at hk
    split at hk
    · rename_i fs ht
      split at hk
      · rename_i fl hf
        obtain ⟨⟨a, s⟩, hs, rfl⟩ := Option.map_eq_some_iff.1 hk
        exact s_faddr hS t f ht hf hs (by simpa [Op.operands] using hx) h
      · cases hk
    · cases hk
  | field t x f =>
    simp only [compK] at hk
    split at hk
    · rename_i fs ht
      split at hk
      · rename_i fl hf
        obtain ⟨⟨a, s⟩, hs, rfl⟩ := Option.map_eq_some_iff.1 hk
        exact s_field hS t f ht hf hs (by simpa [Op.operands] using hx) h
      · cases hk
    · cases hk
  | indexAddr t x ix =>
    have hx' : VsRel S xs [ρ x, ρ ix] := by simpa [Op.operands] using hx
    simp only [compK] at hk
    split at hk
    · rename_i e ht
      split at hk
      · rename_i i hi
        split at hk
        · rename_i h0; cases hk; exact s_iaddr hS t e ht hi h0 hx' h
        · cases hk
      · cases hk
    · rename_i n e ht
      split at hk
      · cases hk
      · rename_i hn
        obtain ⟨⟨a, s⟩, hs, rfl⟩ := Option.map_eq_some_iff.1 hk
        exact s_iaddrA hS t e ht hs hn hx' h
    · cases hk
  | index t x ix =>
    have hx' : VsRel S xs [ρ x, ρ ix] := by simpa [Op.operands] using hx
    simp only [compK] at hk
    split at hk
    · rename_i n e ht
      obtain ⟨⟨a, s⟩, hs, rfl⟩ := Option.map_eq_some_iff.1 hk
      exact s_index hS t e ht hs hx' h
    · rename_i ht; cases hk; exact s_indexStr hS t ht hx' h
    · cases hk
  | extract x i => cases hk; exact s_extract hS i (by simpa [Op.operands] using hx) h
  | makeSlice t l c =>
    simp only [compK] at hk
    split at hk
    · rename_i e ht
      split at hk
      · rename_i i hi
        split at hk
        · rename_i z hz
          split at hk
          · rename_i x hzx
            split at hk
            · rename_i hc
              cases hk
              simp only [Bool.and_eq_true, decide_eq_true_eq, beq_iff_eq, Array.all_eq_true_iff_forall_mem] at hc
              exact s_mkSlice hS t ht hi hz hzx hc.1.1.1 hc.1.1.2 hc.1.2 hc.2 (by simpa [Op.operands] using hx) h
            · cases hk
          · cases hk
        · cases hk
      · cases hk
    · cases hk
  | makeFunc fn first captured =>
    simp only [compK] at hk
    split at hk
    · rename_i f
      split at hk
      · rename_i hf
        cases hk
        have hf' : first = #[] := by simpa using hf
        subst hf'
        have hx' : VsRel S xs (captured.toList.map ρ) := by simpa [Op.operands] using hx
        have := s_mkFunc (P := P) hS f hx' h
        have e : (captured.toList.map ρ).toArray = captured.map ρ := by apply Array.ext'; simp
        rw [e] at this
        have e0 : (#[] : Array Operand).map ρ = #[] := by simp
        show OpOk P S ((do pure (Next.value (← Instr.makeFunc (.func f) ((#[] : Array Operand).map ρ) (captured.map ρ))) : Sem Next).run P S.w) K
        rw [e0]
        exact this
      · cases hk
    · cases hk
  | makeMap t r =>
    cases r with
    | some r => cases hk
    | none =>
      cases hk
      have : xs = [] := by have := hx.length; simpa [Op.operands] using this.symm
      subst this
      exact s_mkMap hS t h
  | lookup t x ix ok =>
    have hx' : VsRel S xs [ρ x, ρ ix] := by simpa [Op.operands] using hx
    cases ok with
    | true => cases hk
    | false =>
      simp only [compK] at hk
      split at hk
      · rename_i k e ht
        split at hk
        · rename_i i hkk hi
          split at hk
          · rename_i z hz
            obtain ⟨zx, hzx, rfl⟩ := Option.map_eq_some_iff.1 hk
            exact s_mapGet hS t ht hkk hi hz hzx hx' h
          · cases hk
        · cases hk
      · cases hk
  | mapUpdate t m k v =>
    have hx' : VsRel S xs [ρ m, ρ k, ρ v] := by simpa [Op.operands] using hx
    simp only [compK] at hk
    split at hk
    · rename_i kt e ht
      split at hk
      · rename_i hkk
        cases hk
        exact s_mapSet hS t ht hkk hx' h
      · cases hk
    · cases hk
  | call c =>
    obtain ⟨callee, args, argTypes⟩ := c
    simp only [compK] at hk
    cases callee with
    | value f =>
      cases hk
      have hx' : VsRel S xs (ρ f :: args.toList.map ρ) := by simpa [Op.operands, Call.operands] using hx
      have := s_call (P := P) hS hx' h
      have e : (args.toList.map ρ).toArray = args.map ρ := by apply Array.ext'; simp
      rw [e] at this
      exact this
    | invoke r m => cases hk
    | builtin b =>
      have hx' : VsRel S xs (args.toList.map ρ) := by simpa [Op.operands, Call.operands] using hx
      have go1 : ∀ {v : Value}, args.toList.map ρ = [v] → OpOk P S ((builtin b argTypes type (args.map fun | .const _ => true | _ => false) #[v]).run P S.w) K → OpOk P S ((execOp ρ { dst, op := .call { callee := .builtin b, args, argTypes }, type, pos, after, guard }).run P S.w) K := by
        intro v hv hh
        have e : args.map ρ = #[v] := by apply Array.ext'; simpa using hv
        rw [← e] at hh
        exact hh
      have go2 : ∀ {u v : Value}, args.toList.map ρ = [u, v] → OpOk P S ((builtin b argTypes type (args.map fun | .const _ => true | _ => false) #[u, v]).run P S.w) K → OpOk P S ((execOp ρ { dst, op := .call { callee := .builtin b, args, argTypes }, type, pos, after, guard }).run P S.w) K := by
        intro u v hv hh
        have e : args.map ρ = #[u, v] := by apply Array.ext'; simpa using hv
        rw [← e] at hh
        exact hh
      have sh1 : xs.length = 1 → ∃ v, args.toList.map ρ = [v] := fun hl => List.length_eq_one_iff.1 (by rw [hx'.length, hl])
      have sh2 : xs.length = 2 → ∃ u v, args.toList.map ρ = [u, v] := fun hl => by
        have hl' := hx'.length
        rw [hl] at hl'
        match args.toList.map ρ, hl' with
        | [u, v], _ => exact ⟨u, v, rfl⟩
      cases b <;> try (simp only [compBuiltin, reduceCtorEq] at hk; done)
      · -- append
        simp only [compBuiltin] at hk
        split at hk
        · rename_i t u h0 h1
          have fin : ∀ {e : TypeId} {i : TypeInfo} {z : Value} {x : AV}, P.underlying t = some (.slice e) → ((∃ e', P.underlying u = some (.slice e')) ∨ P.underlying u = some .string) → P.info? e = some i → i.zero = some z → avOf z = some x →
              (0 < i.size && 0 < i.bytes && z.cells.size == i.size) = true → k = .app i.size i.bytes x → argTypes = #[t, u] → OpOk P S ((execOp ρ { dst, op := .call { callee := .builtin .append, args, argTypes }, type, pos, after, guard }).run P S.w) K := by
            intro e i z x ht hu hi hz _ hc hkk hat
            subst hkk
            simp only [Bool.and_eq_true, decide_eq_true_eq, beq_iff_eq] at hc
            have hl : xs.length = 2 := by
              match xs, h with
              | [_, _], _ => rfl
              | [], h => simp [stepA] at h
              | [_], h => simp [stepA] at h
              | _ :: _ :: _ :: _, h => simp [stepA] at h
            obtain ⟨a, b, hab⟩ := sh2 hl
            rw [hab] at hx'
            refine go2 hab ?_
            rw [hat]
            exact s_app hS ht hu hi hz hc.2 hc.1.1 hc.1.2 _ hx' h
          split at hk
          · rename_i hat
            split at hk
            · rename_i e e' ht hu
              split at hk
              · rename_i i hi
                split at hk
                · rename_i z hz
                  split at hk
                  · rename_i x hzx
                    split at hk
                    · rename_i hc
                      exact fin ht (.inl ⟨_, hu⟩) hi hz hzx hc (by cases hk; rfl) (by simpa using hat)
                    · cases hk
                  · cases hk
                · cases hk
              · cases hk
            · rename_i e ht hu
              split at hk
              · rename_i i hi
                split at hk
                · rename_i z hz
                  split at hk
                  · rename_i x hzx
                    split at hk
                    · rename_i hc
                      exact fin ht (.inr hu) hi hz hzx hc (by cases hk; rfl) (by simpa using hat)
                    · cases hk
                  · cases hk
                · cases hk
              · cases hk
            · cases hk
          · cases hk
        · cases hk
      · simp only [compBuiltin] at hk
        split at hk
        · rename_i t h0
          split at hk
          · rename_i e ht
            cases hk
            have hl : xs.length = 1 := by
              match xs, h with
              | [_], _ => rfl
              | [], h => simp [stepA] at h
              | _ :: _ :: _, h => simp [stepA] at h
            obtain ⟨v, hv⟩ := sh1 hl
            rw [hv] at hx'
            exact go1 hv (s_len hS t type _ argTypes h0 ht hx' h)
          · rename_i ht
            cases hk
            have hl : xs.length = 1 := by
              match xs, h with
              | [_], _ => rfl
              | [], h => simp [stepA] at h
              | _ :: _ :: _, h => simp [stepA] at h
            obtain ⟨v, hv⟩ := sh1 hl
            rw [hv] at hx'
            exact go1 hv (s_lenS hS t type _ argTypes h0 ht hx' h)
          · cases hk
        · cases hk
      · cases hk
        have hl : xs.length = 2 := by
          match xs, h with
          | [_, _], _ => rfl
          | [], h => simp [stepA] at h
          | [_], h => simp [stepA] at h
          | _ :: _ :: _ :: _, h => simp [stepA] at h
        obtain ⟨u, v, huv⟩ := sh2 hl
        rw [huv] at hx'
        exact go2 huv (s_max hS argTypes type _ hx' h)
      · cases hk
        have hl : xs.length = 2 := by
          match xs, h with
          | [_, _], _ => rfl
          | [], h => simp [stepA] at h
          | [_], h => simp [stepA] at h
          | _ :: _ :: _ :: _, h => simp [stepA] at h
        obtain ⟨u, v, huv⟩ := sh2 hl
        rw [huv] at hx'
        exact go2 huv (s_min hS argTypes type _ hx' h)
  | _ => cases hk

end
end Go.Proofs.Ytdmjhlofphhldaa.Abs
