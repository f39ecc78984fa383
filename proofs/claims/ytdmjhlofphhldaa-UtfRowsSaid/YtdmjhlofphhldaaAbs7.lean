/-
  The operations of the model do what 'stepA' says: slices' parts, strings of bytes, calls; new memory; stores.
-/
import Derived.Test.YtdmjhlofphhldaaAbs6
set_option linter.unusedSimpArgs false
set_option linter.unusedVariables false
namespace Go.Proofs.Ytdmjhlofphhldaa.Abs
section
variable {P : Program} {S : MS} {H : AHeap} {ρ : Operand → Value} {K : AV → AHeap → Prop}

theorem s_mkFunc (hS : SRel S H) (f : Nat) {vs : List Value} {xs : List AV} (hx : VsRel S xs vs) (h : stepA P (.mkFunc f) H xs K) :
    OpOk P S ((do pure (Next.value (← Instr.makeFunc (.func f) #[] vs.toArray)) : Sem Next).run P S.w) K :=
  ok_value (x := .fn f xs) (by simp [Instr.makeFunc]) hS ⟨vs, rfl, hx⟩ h

theorem s_call (hS : SRel S H) {v : Value} {vs : List Value} {xs : List AV} (hx : VsRel S xs (v :: vs)) (h : stepA P .call H xs K) :
    OpOk P S ((do let d ← Deferred.ofValue v vs.toArray; invoke d.target d.args : Sem Next).run P S.w) K := by
  match xs, hx with
  | [], hx => have := hx.length; simp at this
  | y :: ys, hx =>
    obtain ⟨hy, hys⟩ := hx.cons_inv
    cases y <;> simp only [stepA] at h <;> try exact h.elim
    rename_i f caps
    obtain ⟨us, rfl, hus⟩ := hy
    obtain ⟨he, hc⟩ := h
    refine .inr ⟨f, (vs ++ us).toArray, ?_, hc S _ hS (hys.append hus)⟩
    have := he (vs ++ us).toArray S.w
    simp only [Deferred.ofValue, Sem.run_bind, Sem.run_pure, Result.andThen_ok, invoke]
    simpa using this

/-! ### A slice's part -/
theorem bound_ok {k : IntKind} {i : Int} {y : Nat} {code : BoundsCode} (h0 : 0 ≤ i) (h1 : i ≤ y) (w : World) : (Instr.sliceBound (.int k i) y code).run P w = .ok i.toNat w := by
  simp [Instr.sliceBound, asIntOf, h0, h1]

/-- The bounds as the operation has them: none, or an int. -/
def BoundIs (o : Option Value) (x : Option Int) : Prop :=
  match o, x with
  | none, none => True
  | some v, some n => ∃ k, v = .int k n
  | _, _ => False

theorem run_bounds {lo hi : Option Value} {a b : Option Int} (hl : BoundIs lo a) (hh : BoundIs hi b) {len cap : Nat} (h1 : 0 ≤ a.getD 0) (h2 : a.getD 0 ≤ b.getD len) (h3 : b.getD len ≤ cap) (w : World) :
    (Instr.sliceBounds true len cap lo hi none).run P w = .ok ((a.getD 0).toNat, (b.getD len).toNat, cap) w := by
  cases lo <;> cases a <;> simp only [BoundIs] at hl <;> try exact hl.elim
  all_goals cases hi <;> cases b <;> simp only [BoundIs] at hh <;> try exact hh.elim
  · simp [Instr.sliceBounds]
  · obtain ⟨k, rfl⟩ := hh
    simp only [Option.getD_none, Option.getD_some] at *
    simp [Instr.sliceBounds, bound_ok (P := P) (k := k) h2 h3]
  · obtain ⟨k, rfl⟩ := hl
    simp only [Option.getD_none, Option.getD_some] at *
    simp [Instr.sliceBounds, bound_ok (P := P) (k := k) h1 h2]
  · obtain ⟨k, rfl⟩ := hl
    obtain ⟨k', rfl⟩ := hh
    simp only [Option.getD_some] at *
    rename_i x y
    have e : ((y.toNat : Nat) : Int) = y := by omega
    simp [Instr.sliceBounds, bound_ok (P := P) (k := k') (i := y) (by omega) h3, bound_ok (P := P) (k := k) (i := x) (y := y.toNat) h1 (by omega)]

theorem slice_ok {t e : TypeId} {i : TypeInfo} (ht : P.underlying t = some (.slice e)) (hi : P.info? e = some i) {lo hh : Option Value} {a b : Option Int} (hl : BoundIs lo a) (hb : BoundIs hh b) (base : Option Addr) {len cap : Nat}
    (h1 : 0 ≤ a.getD 0) (h2 : a.getD 0 ≤ b.getD len) (h3 : b.getD len ≤ cap) (w : World) :
    (Instr.sliceAt t (.slice base len cap) lo hh none).run P w = .ok (.slice (if cap = (a.getD 0).toNat then base else base.map (·.add ((a.getD 0).toNat * i.size))) ((b.getD len).toNat - (a.getD 0).toNat) (cap - (a.getD 0).toNat)) w := by
  simp [Instr.sliceAt, Instr.slice, run_underlying ht, run_bounds (P := P) hl hb h1 h2 h3, run_sizeOf' hi]

theorem s_sliceA (hS : SRel S H) {t e : TypeId} {i : TypeInfo} (ht : P.underlying t = some (.slice e)) (hi : P.info? e = some i) (h0 : 0 < i.size) {lo hh mx : Option Value} {a b c : Option Int} (hl : BoundIs lo a) (hb : BoundIs hh b) (hm : BoundIs mx c)
    {v : Value} {x : AV} (hx : VRel S x v) (h : sliceA i.size x a b c H fun y => K y H) :
    OpOk P S ((do pure (Next.value (← Instr.sliceAt t v lo hh mx)) : Sem Next).run P S.w) K := by
  cases c with
  | some m =>
    simp only [sliceA] at h
    obtain ⟨hm0, hb0, ha0, h⟩ := h
    subst hm0 hb0
    cases mx with
    | none => exact hm.elim
    | some mv =>
      obtain ⟨km, rfl⟩ := hm
      cases hh with
      | none => exact hb.elim
      | some hv =>
        obtain ⟨kh, rfl⟩ := hb
        have run : ∀ (base : Option Addr) (len cap : Nat), (Instr.sliceAt t (.slice base len cap) lo (some (.int kh 0)) (some (.int km 0))).run P S.w = .ok (.slice base 0 0) S.w := by
          intro base len cap
          have b1 : (Instr.sliceBound (.int km 0) cap .slice3Acap).run P S.w = .ok 0 S.w := bound_ok (P := P) (by omega) (by omega) S.w
          have b2 : (Instr.sliceBound (.int kh 0) 0 .slice3B).run P S.w = .ok 0 S.w := bound_ok (P := P) (by omega) (by omega) S.w
          rcases ha0 with rfl | rfl
          · cases lo with
            | some _ => exact hl.elim
            | none => simp [Instr.sliceAt, Instr.slice, run_underlying ht, Instr.sliceBounds, b1, b2, run_sizeOf' hi]
          · cases lo with
            | none => exact hl.elim
            | some lv =>
              obtain ⟨kl, rfl⟩ := hl
              have b3 : (Instr.sliceBound (.int kl 0) 0 .slice3C).run P S.w = .ok 0 S.w := bound_ok (P := P) (by omega) (by omega) S.w
              simp [Instr.sliceAt, Instr.slice, run_underlying ht, Instr.sliceBounds, b1, b2, b3, run_sizeOf' hi]
        cases x <;> simp only at h <;> try exact h.elim
        · obtain rfl : v = .slice none 0 0 := hx
          exact ok_value (x := .nilS) (by simp [run]) hS rfl h
        · obtain ⟨ad, rfl⟩ := hx
          exact ok_value (x := .nul) (by simp [run]; rfl) hS ⟨_, rfl⟩ h
        · obtain ⟨_, _, _, _, _, rfl, _⟩ := hx
          exact ok_value (x := .nul) (by simp [run]; rfl) hS ⟨_, rfl⟩ h
        · obtain ⟨_, _, _, _, _, rfl, _⟩ := full_lst hx
          exact ok_value (x := .nul) (by simp [run]; rfl) hS ⟨_, rfl⟩ h
        · obtain ⟨⟨ad, c, rfl, _⟩, _⟩ := hx
          exact ok_value (x := .nul) (by simp [run]; rfl) hS ⟨_, rfl⟩ h
  | none =>
    cases mx with
    | some _ => exact hm.elim
    | none =>
      cases x <;> simp only [sliceA] at h <;> try exact h.elim
      · obtain ⟨ha, hbb, h⟩ := h
        obtain rfl : v = .slice none 0 0 := hx
        have e1 : a.getD 0 = 0 := by rcases ha with rfl | rfl <;> rfl
        have e2 : b.getD ((0 : Nat) : Int) = 0 := by rcases hbb with rfl | rfl <;> rfl
        have := slice_ok (P := P) ht hi hl hb none (len := 0) (cap := 0) (by omega) (by omega) (by omega) S.w
        rw [e1, e2] at this
        exact ok_value (x := .nilS) (by simp [this]) hS rfl h
      · obtain ⟨ha, hbb, h⟩ := h
        obtain ⟨ad, rfl⟩ := hx
        have e1 : a.getD 0 = 0 := by rcases ha with rfl | rfl <;> rfl
        have e2 : b.getD ((0 : Nat) : Int) = 0 := by rcases hbb with rfl | rfl <;> rfl
        have := slice_ok (P := P) ht hi hl hb ad (len := 0) (cap := 0) (by omega) (by omega) (by omega) S.w
        rw [e1, e2] at this
        exact ok_value (x := .nul) (by simp [this]; rfl) hS ⟨_, rfl⟩ h
      · rename_i w' xs
        obtain ⟨h1, h2, h3, h4, h⟩ := h
        subst h1
        obtain ⟨hp, hw, ad, cap, vs, rfl, hcap, hvs, hrow⟩ := hx
        have run := slice_ok (P := P) ht hi hl hb ad (len := xs.length) (cap := cap) h2 h3 (by omega) S.w
        generalize ea : (a.getD 0).toNat = A at *
        generalize eb : (b.getD (xs.length : Int)).toNat = B at *
        have hAB : A ≤ B := by omega
        have hB : B ≤ xs.length := by omega
        have hlen : ((xs.take B).drop A).length = B - A := by simp; omega
        refine ok_value (by simp [run]; rfl) hS ?_ h
        refine ⟨pureL_drop (pureL_take hp), hw, ?_⟩
        by_cases hc : cap = A
        · have : (xs.take B).drop A = [] := List.eq_nil_of_length_eq_zero (by omega)
          exact ⟨ad, cap - A, [], by rw [hlen]; simp [hc], ⟨by omega, fun hn => by have := hcap.2 hn; omega⟩, by rw [this]; rfl, fun hne => absurd this hne⟩
        · refine ⟨ad.map (·.add (A * i.size)), cap - A, (vs.take B).drop A, by rw [hlen]; simp [hc], ⟨by omega, fun hn => by have := hcap.2 (by cases ad <;> simp_all); omega⟩, (hvs.take B).drop A, fun hne => ?_⟩
          obtain ⟨bb, o, rfl, him, hrow⟩ := hrow (fun hh => by rw [hh] at hne; simp at hne)
          refine ⟨bb, o + A * i.size, congrArg some (addr_add _ _ _), him, fun j v hv => ?_⟩
          rw [List.getElem?_drop, List.getElem?_take] at hv
          split at hv
          · have := hrow _ _ hv
            rw [Nat.add_mul] at this
            rw [Nat.add_assoc]
            exact this
          · cases hv
      · rename_i w' xs
        obtain ⟨h1, h2, h3, h4, h⟩ := h
        subst h1
        obtain ⟨hp, hw, ad, cap, vs, rfl, hcap, hvs, hrow⟩ := full_lst hx
        have run := slice_ok (P := P) ht hi hl hb ad (len := xs.length) (cap := cap) h2 h3 (by omega) S.w
        generalize ea : (a.getD 0).toNat = A at *
        generalize eb : (b.getD (xs.length : Int)).toNat = B at *
        have hAB : A ≤ B := by omega
        have hB : B ≤ xs.length := by omega
        have hlen : ((xs.take B).drop A).length = B - A := by simp; omega
        refine ok_value (by simp [run]; rfl) hS ?_ h
        refine ⟨pureL_drop (pureL_take hp), hw, ?_⟩
        by_cases hc : cap = A
        · have : (xs.take B).drop A = [] := List.eq_nil_of_length_eq_zero (by omega)
          exact ⟨ad, cap - A, [], by rw [hlen]; simp [hc], ⟨by omega, fun hn => by have := hcap.2 hn; omega⟩, by rw [this]; rfl, fun hne => absurd this hne⟩
        · refine ⟨ad.map (·.add (A * i.size)), cap - A, (vs.take B).drop A, by rw [hlen]; simp [hc], ⟨by omega, fun hn => by have := hcap.2 (by cases ad <;> simp_all); omega⟩, (hvs.take B).drop A, fun hne => ?_⟩
          obtain ⟨bb, o, rfl, him, hrow⟩ := hrow (fun hh => by rw [hh] at hne; simp at hne)
          refine ⟨bb, o + A * i.size, congrArg some (addr_add _ _ _), him, fun j v hv => ?_⟩
          rw [List.getElem?_drop, List.getElem?_take] at hv
          split at hv
          · have := hrow _ _ hv
            rw [Nat.add_mul] at this
            rw [Nat.add_assoc]
            exact this
          · cases hv
      · rename_i g vn off len
        obtain ⟨h1, h2, h3, h4, h5, h6, h⟩ := h
        obtain ⟨_, hg, hcv, hpos⟩ := hx
        have hG := hS.live_of hg
        have ec : S.cur g = vn := by rw [hG.ver, h1]
        obtain ⟨ad, cap', rfl, hcase⟩ := hpos ec
        have hcap : b.getD (len : Int) ≤ cap' := by
          rcases hcase with ⟨_, hc, hle⟩ | ⟨hl0, hc, hle⟩
          · rcases h6 with h6 | ⟨h6, h7⟩
            · omega
            · have := hG.full (by omega) h6; omega
          · rcases h6 with h6 | ⟨h6, h7⟩
            · omega
            · have := hG.full (by omega) h6; omega
        have run := slice_ok (P := P) ht hi hl hb ad (len := len) (cap := cap') h4 h5 hcap S.w
        refine ok_value (v := .slice (if cap' = (a.getD 0).toNat then ad else ad.map (·.add ((a.getD 0).toNat * i.size))) ((b.getD len).toNat - (a.getD 0).toNat) (cap' - (a.getD 0).toNat)) (by simp only [Sem.run_bind, run, Result.andThen_ok, Sem.run_pure]) hS ?_ h
        generalize ea : (a.getD 0).toNat = A at *
        generalize eb : (b.getD (len : Int)).toNat = B at *
        have hAB : A ≤ B := by omega
        have hB : B ≤ cap' := by omega
        refine ⟨?_, hg, hcv, fun _ => ?_⟩
        · refine ⟨_, _, rfl, fun hn => ?_⟩
          rcases hcase with ⟨rfl, hc, hle⟩ | ⟨hl0, hc, hle⟩
          · split at hn <;> cases hn
          · omega
        · rcases hcase with ⟨rfl, hc, hle⟩ | ⟨hl0, hc, hle⟩
          · by_cases hcA : cap' = A
            · exact ⟨_, _, by rw [if_pos hcA], .inr ⟨by omega, by omega, by omega⟩⟩
            · refine ⟨_, _, by rw [if_neg hcA], .inl ⟨?_, by omega, by omega⟩⟩
              show some ((Addr.mk _ _ none).add _) = _
              rw [addr_add, hG.wid, h2, Nat.add_mul]
          · have : cap' = A := by omega
            exact ⟨_, _, by rw [if_pos this], .inr ⟨by omega, by omega, by omega⟩⟩

theorem opt_take {b : Bool} {xs : List AV} {a : Option Int} {l : List AV} (h : optA b xs = some (a, l)) {ov : Option Value} {vs : List Value} (hb : b = ov.isSome) (hx : VsRel S xs (ov.toList ++ vs)) : BoundIs ov a ∧ VsRel S l vs := by
  cases ov with
  | none =>
    subst hb
    simp only [Option.isSome_none, optA, Option.some.injEq, Prod.mk.injEq] at h
    obtain ⟨rfl, rfl⟩ := h
    exact ⟨trivial, by simpa using hx⟩
  | some v =>
    subst hb
    match xs, hx, h with
    | [], hx, h => simp [optA] at h
    | x :: xs, hx, h =>
      obtain ⟨h1, h2⟩ := (show VsRel S (x :: xs) (v :: vs) by simpa using hx).cons_inv
      cases x <;> simp only [Option.isSome_some, optA, Option.some.injEq, Prod.mk.injEq, reduceCtorEq] at h
      obtain ⟨rfl, rfl⟩ := h
      exact ⟨⟨_, h1⟩, h2⟩

theorem s_slice (hS : SRel S H) {t e : TypeId} {i : TypeInfo} (ht : P.underlying t = some (.slice e)) (hi : P.info? e = some i) (h0 : 0 < i.size) {v : Value} {lo hh mx : Option Value}
    {xs : List AV} (hx : VsRel S xs (v :: (lo.toList ++ (hh.toList ++ (mx.toList ++ []))))) (h : stepA P (.slice i.size lo.isSome hh.isSome mx.isSome) H xs K) :
    OpOk P S ((do pure (Next.value (← Instr.sliceAt t v lo hh mx)) : Sem Next).run P S.w) K := by
  match xs, hx with
  | [], hx => have := hx.length; simp at this
  | x :: l, hx =>
    obtain ⟨hxv, hl⟩ := hx.cons_inv
    simp only [stepA] at h
    obtain ⟨⟨a, l1⟩, ha, h⟩ := optK_elim h
    obtain ⟨⟨b, l2⟩, hb, h⟩ := optK_elim h
    obtain ⟨⟨c, l3⟩, hc, hl3, h⟩ := optK_elim h
    obtain ⟨b1, r1⟩ := opt_take ha rfl hl
    obtain ⟨b2, r2⟩ := opt_take hb rfl r1
    obtain ⟨b3, _⟩ := opt_take hc rfl r2
    exact s_sliceA hS ht hi h0 b1 b2 b3 hxv h

/-! ### Reading a slice's elements -/
/-- The elements that 'elemsOf' tells lie in memory, from the slice's address on. -/
theorem elems_laid (hS : SRel S H) {w : Nat} (hw : 0 < w) {x : AV} {v : Value} (hx : VRel S x v) (hok : ElemsOk H w x) (hstr : ∀ s, x ≠ .str s) {es : List AV} (he : elemsOf H x = some es) :
    ∃ a cap vs, v = .slice a es.length cap ∧ VsRel S es vs ∧ (es ≠ [] → ∃ b o, a = some ⟨b, o, none⟩ ∧ RowAt S.w b o w vs) := by
  cases x <;> simp only [elemsOf, Option.some.injEq, reduceCtorEq] at he <;> simp only [ElemsOk] at hok
  · exact absurd rfl (hstr _)
  · subst he
    obtain rfl : v = .slice none 0 0 := hx
    exact ⟨none, 0, [], rfl, rfl, fun h => absurd rfl h⟩
  · subst he
    obtain ⟨a, rfl⟩ := hx
    exact ⟨a, 0, [], rfl, rfl, fun h => absurd rfl h⟩
  · subst he
    obtain ⟨a, cap, rfl⟩ := hx
    exact ⟨some a, cap, [], rfl, rfl, fun h => absurd rfl h⟩
  · subst he
    subst hok
    obtain ⟨_, _, a, cap, vs, rfl, _, hvs, hrow⟩ := hx
    exact ⟨_, cap, vs, rfl, hvs, fun hne => let ⟨b, o, ha, _, hr⟩ := hrow hne; ⟨b, o, ha, hr⟩⟩
  · subst he
    subst hok
    obtain ⟨_, _, a, cap, vs, rfl, _, hvs, hrow⟩ := full_lst hx
    exact ⟨_, cap, vs, rfl, hvs, fun hne => let ⟨b, o, ha, _, hr⟩ := hrow hne; ⟨b, o, ha, hr⟩⟩
  · rename_i g vn off len
    obtain ⟨h1, h2, h3⟩ := hok
    obtain ⟨_, hg, hc, hp⟩ := hx
    have hG := hS.live_of hg
    obtain ⟨a, cap', rfl, hcase⟩ := hp (by rw [hG.ver, h1])
    have hlen : es.length = len := by rw [← he]; simp; omega
    by_cases hc0 : S.cap g = 0
    · have h4 := hG.len (by omega)
      have he0 : es = [] := List.eq_nil_of_length_eq_zero (by omega)
      exact ⟨a, cap', [], by rw [hlen], by rw [he0]; rfl, fun hne => absurd he0 hne⟩
    obtain ⟨⟨cells, T, us, hb, hcs, hus, hf⟩, h6⟩ := hG.live (by omega) (by omega)
    refine ⟨a, cap', (us.drop off).take len, by rw [hlen], by rw [← he]; exact (hus.drop off).take len, fun hne => ?_⟩
    rcases hcase with ⟨rfl, _, _⟩ | ⟨hl0, _, _⟩
    · refine ⟨_, _, rfl, fun j u hu => ?_⟩
      rw [List.getElem?_take] at hu
      split at hu
      · rw [List.getElem?_drop] at hu
        have := hf.row hb (off + j) u hu
        rw [h2, Nat.zero_add, Nat.add_mul] at this
        rw [hG.wid, h2]
        exact this
      · cases hu
    · exact absurd (List.eq_nil_of_length_eq_zero (by omega)) hne

/-- The cells of elements, one behind the other. -/
def flat (vs : List Value) : List Value := vs.flatMap (·.cells.toList)

theorem flat_get {w : Nat} : ∀ {vs : List Value}, (∀ v ∈ vs, v.cells.size = w) → (flat vs).length = vs.length * w ∧ ∀ i v, vs[i]? = some v → ∀ j, j < w → (flat vs)[i * w + j]? = v.cells[j]?
  | [], _ => ⟨by simp [flat], fun i v hv => by simp at hv⟩
  | v :: vs, h => by
    obtain ⟨ih1, ih2⟩ := flat_get (w := w) (vs := vs) (fun u hu => h u (by simp [hu]))
    have hv : v.cells.toList.length = w := by rw [← h v (by simp)]; simp
    have e : flat (v :: vs) = v.cells.toList ++ flat vs := by simp [flat]
    refine ⟨by rw [e, List.length_append, hv, ih1, List.length_cons, Nat.add_mul]; omega, fun i u hu j hj => ?_⟩
    rw [e]
    cases i with
    | zero =>
      simp only [List.getElem?_cons_zero, Option.some.injEq] at hu
      subst hu
      rw [List.getElem?_append_left (by omega)]
      simp
    | succ i =>
      simp only [List.getElem?_cons_succ] at hu
      rw [List.getElem?_append_right (by rw [hv, Nat.add_mul]; omega), ← ih2 i u hu j hj, hv]
      congr 1
      rw [Nat.add_mul]; omega

theorem flat_at {w : Nat} (hw : 0 < w) {vs : List Value} (h : ∀ v ∈ vs, v.cells.size = w) {k : Nat} {c : Value} (hc : (flat vs)[k]? = some c) : ∃ v, vs[k / w]? = some v ∧ v.cells[k % w]? = some c := by
  obtain ⟨h1, h2⟩ := flat_get h
  have hk : k < vs.length * w := by rw [← h1]; exact (List.getElem?_eq_some_iff.1 hc).1
  have hlt : k / w < vs.length := Nat.div_lt_of_lt_mul (by rw [Nat.mul_comm]; exact hk)
  refine ⟨vs[k / w], List.getElem?_eq_getElem hlt, ?_⟩
  rw [← h2 (k / w) _ (List.getElem?_eq_getElem hlt) (k % w) (Nat.mod_lt _ hw), ← hc]
  congr 1
  rw [Nat.mul_comm]
  exact Nat.div_add_mod k w

theorem RowAt.sizes {w : World} {b o wd : Nat} {vs : List Value} (h : RowAt w b o wd vs) : ∀ v ∈ vs, v.cells.size = wd := fun v hv => by
  obtain ⟨i, hi⟩ := List.getElem?_of_mem hv
  exact (h i v hi).1

theorem RowAt.cell {w : World} {b o wd : Nat} {vs : List Value} (hw : 0 < wd) (h : RowAt w b o wd vs) {k : Nat} {c : Value} (hc : (flat vs)[k]? = some c) : w.cell? ((⟨b, o, none⟩ : Addr).add k) = some c ∧ c.oneCell' = true := by
  obtain ⟨v, hv, hcc⟩ := flat_at hw h.sizes hc
  obtain ⟨h1, h2, h3⟩ := h _ _ hv
  have := h3 (k % wd) (Nat.mod_lt _ hw)
  rw [hcc] at this
  refine ⟨?_, ?_⟩
  · rw [addr_add, ← this]
    congr 2
    rw [Nat.add_assoc, Nat.mul_comm, Nat.div_add_mod]
  · have hm : c ∈ v.cells := by
      obtain ⟨hh, he⟩ := Array.getElem?_eq_some_iff.1 hcc
      exact he ▸ Array.getElem_mem hh
    exact h2 c hm

theorem s_toStr (hS : SRel S H) (src dst e : TypeId) (hs : P.underlying src = some (.slice e)) (hd : P.underlying dst = some .string) (he : P.underlying e = some (.int .u8)) {v : Value} {xs : List AV} (hx : VsRel S xs [v]) (h : stepA P .toStr H xs K) :
    OpOk P S ((do pure (Next.value (← convert src dst v)) : Sem Next).run P S.w) K := by
  obtain ⟨x, rfl, hv⟩ := hx.len1
  simp only [stepA] at h
  obtain ⟨hok, hns, bs, hbs, hK⟩ := h
  obtain ⟨a, cap, vs, rfl, hvs, hrow⟩ := elems_laid hS (by omega) hv hok (fun s hs => by subst hs; exact hns) hbs
  have conv : ∀ (bs : List UInt8) (vs : List Value), VsRel S (bs.map fun b => AV.int .u8 b.toNat) vs → vs = bs.map fun b => Value.int .u8 b.toNat := by
    intro bs
    induction bs with
    | nil => exact fun vs h => h
    | cons b bs ih => intro vs h; obtain ⟨u, r, rfl, h1, h2⟩ := h; rw [show u = _ from h1, ih r h2]; rfl
  have hvs' := conv bs vs hvs
  subst hvs'
  cases a with
  | none =>
    have : bs = [] := by
      cases bs with
      | nil => rfl
      | cons b bs => obtain ⟨_, _, hh, _⟩ := hrow (by simp); cases hh
    subst this
    exact ok_value (x := .str []) (by simp only [Sem.run_bind, run_convert_bytes_nil S.w src e hs he _ _ dst hd, Result.andThen_ok, Sem.run_pure]; rfl) hS rfl hK
  | some ad =>
    have run := run_convert_bytes_back (P := P) S.w src dst e ad cap bs hs he hd (fun j hj => by
      obtain ⟨b, o, hh, hr⟩ := hrow (by intro h0; have := List.map_eq_nil_iff.1 h0; subst this; simp at hj)
      cases hh
      have := (hr j (.int .u8 (bs[j].toNat : Int)) (by simp [hj])).2.2 0 (by omega)
      rw [addr_add]
      simpa [Value.cells] using this)
    refine ok_value (x := .str bs) (v := .string ⟨bs.toArray⟩) ?_ hS rfl hK
    simp only [List.length_map, Sem.run_bind, run, Result.andThen_ok, Sem.run_pure]

/-! ### New memory -/
theorem run_newRow' (T : TypeId) (cells : Array Value) (w : World) : (newRow T cells).run P w = .ok ⟨w.heap.size, 0, none⟩ (w.alloc (.cells cells T)) := by
  rfl

/-- Elements, of so many cells each, their cells known: they fill a row. -/
theorem fills_flat {w : Nat} {vs : List Value} (h : ∀ v ∈ vs, v.cells.size = w ∧ ∀ c ∈ v.cells, c.oneCell' = true) (rest : Array Value) : Fills ((flat vs).toArray ++ rest) w vs := by
  intro i v hv
  obtain ⟨h1, h2⟩ := h v (List.mem_of_getElem? hv)
  refine ⟨h1, h2, fun j hj => ?_⟩
  obtain ⟨f1, f2⟩ := flat_get (w := w) (vs := vs) (fun u hu => (h u hu).1)
  have hi : i < vs.length := (List.getElem?_eq_some_iff.1 hv).1
  have : (i + 1) * w ≤ vs.length * w := Nat.mul_le_mul_right _ hi
  rw [Nat.add_mul, Nat.one_mul] at this
  rw [Array.getElem?_append_left (by simp; omega), ← f2 i v hv j hj]
  simp

/-- A value whose every cell is known is of cells that memory takes. -/
theorem one_cell {x : AV} {v : Value} (h : VRel S x v) (h1 : x.one = true) : v.oneCell' = true := by
  cases x <;> simp only [AV.one, Bool.false_eq_true] at h1
  · rw [show v = _ from h]; rfl
  · rw [show v = _ from h]; rfl
  · rw [show v = _ from h]; rfl
  · rw [show v = _ from h]; rfl
  · obtain ⟨a, rfl⟩ := h; rfl
  · obtain ⟨a, cap, rfl⟩ := h; rfl
  · obtain ⟨_, _, _, _, _, rfl, _⟩ := h; rfl
  · obtain ⟨_, _, _, _, rfl, _⟩ := h; rfl
  · obtain ⟨⟨_, rfl⟩, _⟩ := h; rfl
  · obtain ⟨⟨_, _, rfl, _⟩, _⟩ := h; rfl
  · obtain ⟨_, _, _, _, rfl, _⟩ := h; rfl
  · obtain ⟨⟨_, rfl⟩, _⟩ := h; rfl
  · rw [show v = _ from h]; rfl
  · obtain ⟨_, rfl, _⟩ := h; rfl
  · rw [show v = _ from h]; rfl

theorem one_cells : ∀ {xs : List AV} {vs : List Value}, VsRel S xs vs → allOne xs = true → ∀ c ∈ vs, c.oneCell' = true
  | [], vs, h, _ => by rw [show vs = [] from h]; simp
  | x :: xs, vs, h, h1 => by
    obtain ⟨v, r, rfl, hv, hr⟩ := h
    simp only [allOne, Bool.and_eq_true] at h1
    intro c hc
    rcases List.mem_cons.1 hc with rfl | hc
    · exact one_cell hv h1.1
    · exact one_cells hr h1.2 c hc

theorem allOne_any {x : AV} (h : allOne x.cells = true) : x.isAny = false := by
  cases x <;> simp_all [AV.cells, allOne, AV.one, AV.isAny]

theorem known_value {x : AV} {v : Value} (h : VRel S x v) (h1 : allOne x.cells = true) : v.cells.size = x.cells.length ∧ ∀ c ∈ v.cells, c.oneCell' = true := by
  have hc := h.cells (allOne_any h1)
  refine ⟨by have := hc.length; simpa using this, fun c hc' => one_cells hc h1 c (by simpa using hc')⟩

theorem avOf1_rel {v : Value} {x : AV} (h : avOf1 v = some x) : VRel S x v := by
  unfold avOf1 at h
  split at h <;> simp only [Option.some.injEq, reduceCtorEq] at h <;> subst h <;> rfl
theorem avsOf_rel : ∀ {vs : List Value} {xs : List AV}, avsOf vs = some xs → VsRel S xs vs
  | [], xs, h => by cases h; rfl
  | v :: vs, xs, h => by
    simp only [avsOf] at h
    split at h
    · rename_i x ys h1 h2
      cases h
      exact ⟨v, vs, rfl, avOf1_rel h1, avsOf_rel h2⟩
    · cases h
theorem avOf_rel {v : Value} {x : AV} (h : avOf v = some x) : VRel S x v := by
  unfold avOf at h
  split at h
  · rename_i cs
    rw [Option.map_eq_some_iff] at h
    obtain ⟨ys, h1, rfl⟩ := h
    exact ⟨cs.toList, rfl, avsOf_rel h1⟩
  · exact avOf1_rel h

theorem ok_grow {r : Result Next} {v : Value} {x : AV} {S' : MS} {H' : AHeap} (hr : r = .ok (.value v) S'.w) (e : Evo S S') (hS : SRel S' H') (hv : VRel S' x v) (hK : K x H') : OpOk P S r K :=
  .inl ⟨v, S', x, H', .inl hr, e, hS, hv, hK⟩

theorem grow_ptr (hS : SRel S H) (o : Obj) (ver cap wid : Nat) : VRel (S.grow o ver cap wid) (.ptr H.n ver 0 0) (.pointer (some ⟨S.w.heap.size, 0, none⟩)) := by
  refine ⟨⟨_, rfl⟩, ?_, ?_, fun _ => ?_⟩
  · show H.n < S.n + 1; rw [hS.n]; omega
  · show ver ≤ fput _ _ _ _; rw [← hS.n, fput_same]; exact Nat.le_refl _
  · show _ = Value.pointer (some ⟨fput _ _ _ _, _, _⟩); rw [← hS.n, fput_same]; simp

theorem grow_ref (hS : SRel S H) (o : Obj) (ver cap wid len : Nat) (hl : len ≤ cap) : VRel (S.grow o ver cap wid) (.ref H.n ver 0 len) (.slice (some ⟨S.w.heap.size, 0, none⟩) len cap) := by
  refine ⟨⟨_, _, rfl, fun h => by cases h⟩, ?_, ?_, fun _ => ⟨_, _, rfl, .inl ⟨?_, ?_, ?_⟩⟩⟩
  · show H.n < S.n + 1; rw [hS.n]; omega
  · show ver ≤ fput _ _ _ _; rw [← hS.n, fput_same]; exact Nat.le_refl _
  · show _ = some (Addr.mk (fput _ _ _ _) _ _); rw [← hS.n, fput_same]; simp
  · show _ = fput _ _ _ _ - _; rw [← hS.n, fput_same]; simp
  · show _ ≤ fput _ _ _ _; rw [← hS.n, fput_same]; omega

theorem s_alloc (hS : SRel S H) (t : TypeId) {i : TypeInfo} {z : Value} {x : AV} (hi : P.info? t = some i) (hz : i.zero = some z) (hx : avOf z = some x) (h0 : 0 < z.cells.size) (h1 : ∀ c ∈ z.cells, c.oneCell' = true) (h : stepA P (.alloc x z.cells.size) H [] K) :
    OpOk P S ((do pure (Next.value (← Instr.alloc t true (.tuple #[]))) : Sem Next).run P S.w) K := by
  simp only [stepA] at h
  have g := hS.grow z.cells t ⟨z.cells.size, 1, true, [x]⟩ 1 (by simp) (vs := [z]) (.one (avOf_rel hx)) (fun k v hv => by
    cases k with
    | zero => simp only [List.getElem?_cons_zero, Option.some.injEq] at hv; subst hv; exact ⟨rfl, h1, fun j hj => by simp⟩
    | succ k => simp at hv) (by simp) (by simp) h0
  refine ok_grow (S' := S.grow (.cells z.cells t) 1 1 z.cells.size) ?_ (Evo.grow hS.im _ _ _ _) g (grow_ptr hS _ _ _ _) h
  simp [Instr.alloc, zeroValue, typeInfo, hi, hz, newVar, run_newRow']
  rfl

theorem s_box (hS : SRel S H) (t : TypeId) {v : Value} {xs : List AV} (hx : VsRel S xs [v]) (h : stepA P .box H xs K) :
    OpOk P S ((do pure (Next.value (← Instr.box t v)) : Sem Next).run P S.w) K := by
  obtain ⟨x, rfl, hv⟩ := hx.len1
  simp only [stepA] at h
  obtain ⟨h1, h2, hK⟩ := h
  obtain ⟨k1, k2⟩ := known_value hv h1
  have g := hS.grow v.cells t ⟨x.cells.length, 1, true, [x]⟩ 1 (by simpa using k1) (vs := [v]) (.one hv) (fun k u hu => by
    cases k with
    | zero => simp only [List.getElem?_cons_zero, Option.some.injEq] at hu; subst hu; exact ⟨k1, k2, fun j hj => by simp⟩
    | succ k => simp at hu) (by simp) (by simp) h2
  refine ok_grow (S' := S.grow (.cells v.cells t) 1 1 x.cells.length) ?_ (Evo.grow hS.im _ _ _ _) g (grow_ptr hS _ _ _ _) hK
  simp [Instr.box, newVar, run_newRow']
  rfl

end
end Go.Proofs.Ytdmjhlofphhldaa.Abs
