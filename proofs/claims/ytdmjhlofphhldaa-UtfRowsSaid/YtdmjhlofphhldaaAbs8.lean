/-
  The operations of the model do what 'stepA' says: structs and slices that are built; stores; append.
-/
import Derived.Test.YtdmjhlofphhldaaAbs7
set_option linter.unusedSimpArgs false
set_option linter.unusedVariables false
namespace Go.Proofs.Ytdmjhlofphhldaa.Abs
section
variable {P : Program} {S : MS} {H : AHeap} {ρ : Operand → Value} {K : AV → AHeap → Prop}

/-- A list with a segment replaced. -/
def seg {α : Type} (l : List α) (a : Nat) (m : List α) : List α := l.take a ++ m ++ l.drop (a + m.length)

theorem seg_length {α : Type} {l : List α} {a : Nat} {m : List α} (h : a + m.length ≤ l.length) : (seg l a m).length = l.length := by simp [seg]; omega

theorem seg_get {α : Type} {l : List α} {a : Nat} {m : List α} (h : a + m.length ≤ l.length) (k : Nat) : (seg l a m)[k]? = if k < a then l[k]? else if k < a + m.length then m[k - a]? else l[k]? := by
  unfold seg
  have ht : (l.take a).length = a := by simp; omega
  split
  · rename_i h1
    rw [List.append_assoc, List.getElem?_append_left (by omega), List.getElem?_take, if_pos h1]
  · rename_i h1
    split
    · rename_i h2
      rw [List.getElem?_append_left (by simp; omega), List.getElem?_append_right (by omega), ht]
    · rename_i h2
      rw [List.getElem?_append_right (by simp; omega), List.getElem?_drop]
      congr 1
      simp
      omega

/-- A segment of one element of a row replaced. -/
theorem Fills.seg {cells : Array Value} {wd : Nat} {vs : List Value} (h : Fills cells wd vs) {i o : Nat} {u u' : Value} (hu : vs[i]? = some u) {l : List Value} (hle : o + l.length ≤ wd) (hsz : (i + 1) * wd ≤ cells.size)
    (h1 : u'.cells.size = wd) (h2 : ∀ c ∈ u'.cells, c.oneCell' = true) (h3 : ∀ j, j < wd → u'.cells[j]? = if o ≤ j ∧ j < o + l.length then l[j - o]? else u.cells[j]?) :
    Fills (seg cells.toList (i * wd + o) l).toArray wd (vs.set i u') := by
  have hsz' : i * wd + wd ≤ cells.size := by rw [Nat.add_mul] at hsz; omega
  intro k v hv
  by_cases hki : i = k
  · subst hki
    have hi : i < vs.length := (List.getElem?_eq_some_iff.1 hu).1
    rw [List.getElem?_set_self hi] at hv
    cases hv
    refine ⟨h1, h2, fun j hj => ?_⟩
    rw [h3 j hj, List.getElem?_toArray, seg_get (by simp; omega)]
    obtain ⟨_, _, f3⟩ := h i u hu
    have := f3 j hj
    by_cases hc : o ≤ j ∧ j < o + l.length
    · rw [if_neg (by omega), if_pos (by omega), if_pos hc]
      congr 1
      omega
    · rw [if_neg hc]
      split
      · simpa using this
      · rw [if_neg (by omega)]
        simpa using this
  · rw [List.getElem?_set_ne hki] at hv
    obtain ⟨f1, f2, f3⟩ := h k v hv
    refine ⟨f1, f2, fun j hj => ?_⟩
    rw [← f3 j hj, List.getElem?_toArray, seg_get (by simp; omega)]
    rcases Nat.lt_or_ge k i with hlt | hge
    · have : (k + 1) * wd ≤ i * wd := Nat.mul_le_mul_right _ hlt
      rw [Nat.add_mul] at this
      rw [if_pos (by omega)]
      simp
    · have : (i + 1) * wd ≤ k * wd := Nat.mul_le_mul_right _ (by omega)
      rw [Nat.add_mul] at this
      rw [if_neg (by omega), if_neg (by omega)]
      simp

theorem fold_set (off : Nat) : ∀ (l : List Value) (k : Nat) (cs : Array Value), off + k + l.length ≤ cs.size → ((l.zipIdx k).foldl (fun cs p => cs.setIfInBounds (off + p.2) p.1) cs).toList = seg cs.toList (off + k) l
  | [], k, cs, _ => by simp [seg]
  | c :: l, k, cs, h => by
    simp only [List.zipIdx_cons, List.foldl_cons]
    have hk : off + k < cs.size := by simp at h; omega
    rw [fold_set off l (k + 1) _ (by simp at h ⊢; omega)]
    have e := list_seg_step cs.toList (off + k) c l (by simp at h ⊢; omega)
    simpa [seg, Nat.add_assoc] using e

theorem fill_step (off : Nat) (v : Value) (cs : Array Value) (h : off + v.cells.size ≤ cs.size) : (v.cells.zipIdx.foldl (fun cs (c, j) => cs.setIfInBounds (off + j) c) cs) = (seg cs.toList off v.cells.toList).toArray := by
  apply Array.ext'
  rw [← Array.foldl_toList, Array.toList_zipIdx]
  have := fold_set off v.cells.toList 0 cs (by simpa using h)
  simpa using this

theorem fill_rel {places : List (Nat × Nat)} {place : Nat → Option (Nat × Nat)} (hp : ∀ i q, places[i]? = some q → place i = some q) : ∀ {idx : List Nat} {xs : List AV} {cs cs' : List AV} {vs : List Value} {cells : Array Value},
    fillA places idx xs cs = some cs' → VsRel S xs vs → VsRel S cs cells.toList → ∃ cells', Instr.fill place cells (idx.zip vs) = some cells' ∧ VsRel S cs' cells'.toList
  | [], [], cs, cs', vs, cells, h, hx, hc => by
    rw [show vs = [] from hx]
    simp only [fillA, Option.some.injEq] at h
    subst h
    exact ⟨cells, rfl, hc⟩
  | i :: is, x :: xs, cs, cs', vs, cells, h, hx, hc => by
    obtain ⟨v, r, rfl, hv, hr⟩ := hx
    simp only [fillA] at h
    split at h
    · rename_i off s hpl
      split at h
      · rename_i hcond
        obtain ⟨h1, h2, h3⟩ := hcond
        obtain ⟨k1, k2⟩ := known_value hv h2
        have hsz : cells.size = cs.length := by have := hc.length; simpa using this
        have hstep := fill_step off v cells (by omega)
        have hvc := hv.cells (allOne_any h2)
        have hnew : VsRel S (cs.take off ++ x.cells ++ cs.drop (off + s)) (seg cells.toList off v.cells.toList).toArray.toList := by
          have e : v.cells.toList.length = s := by simp; omega
          simp only [seg, e]
          exact ((hc.take off).append hvc).append (hc.drop (off + s))
        obtain ⟨cells', hf, hr'⟩ := fill_rel hp h hr hnew
        refine ⟨cells', ?_, hr'⟩
        simp only [List.zip_cons_cons, Instr.fill, hp i _ hpl]
        rw [if_neg (by simp; omega), hstep]
        exact hf
      · cases h
    · cases h
  | [], _ :: _, _, _, _, _, h, _, _ => by simp [fillA] at h
  | _ :: _, [], _, _, _, _, h, _, _ => by simp [fillA] at h

theorem run_places {w : World} : ∀ {l : List Field} {places : List (Nat × Nat)}, placesOf P l = some places → (l.mapM fun f => (do pure (f.offset, ← sizeOf f.type) : Sem (Nat × Nat))).run P w = .ok places w
  | [], places, h => by cases h; rfl
  | f :: l, places, h => by
    simp only [placesOf] at h
    split at h
    · rename_i j r hj hr
      cases h
      rw [List.mapM_cons]
      simp only [Sem.run_bind, run_sizeOf' hj, Result.andThen_ok, Sem.run_pure, run_places hr]
    · cases h

theorem zip_map (ρ : Operand → Value) : ∀ (ps : List (Nat × Operand)), (ps.map (·.1)).zip (ps.map fun p => ρ p.2) = ps.map fun (i, x) => (i, ρ x)
  | [] => rfl
  | p :: ps => by simp [zip_map ρ ps]

theorem agg_zero {z : Value} {x : AV} (hag : ∃ cs, z = .agg cs) (hx : avOf z = some x) : VsRel S x.cells z.cells.toList := by
  obtain ⟨c, rfl⟩ := hag
  have := avOf_rel (S := S) hx
  unfold avOf at hx
  simp only [Option.map_eq_some_iff] at hx
  obtain ⟨ys, _, rfl⟩ := hx
  exact this.cells rfl

theorem s_build (hS : SRel S H) (t : TypeId) {fs : Array Field} {i : TypeInfo} {z : Value} {x : AV} {places : List (Nat × Nat)} (ht : P.underlying t = some (.struct fs)) (hi : P.info? t = some i) (hz : i.zero = some z) (hx : avOf z = some x)
    (hp : placesOf P fs.toList = some places) (hag : ∃ cs, z = .agg cs)
    (ps : List (Nat × Operand)) {xs : List AV} (hxs : VsRel S xs (ps.map fun p => ρ p.2)) (h : stepA P (.build x.cells places (ps.map (·.1))) H xs K) :
    OpOk P S ((do pure (Next.value (← Instr.build t (ps.toArray.map fun (i, x) => (i, ρ x)))) : Sem Next).run P S.w) K := by
  simp only [stepA] at h
  · obtain ⟨cs, hcs, h⟩ := optK_elim h
    have hxz := agg_zero (S := S) hag hx
    have hpl : (fs.mapM fun f => (do pure (f.offset, ← sizeOf f.type) : Sem (Nat × Nat))).run P S.w = .ok places.toArray S.w := by
      rw [Array.mapM_eq_mapM_toList]
      simp only [Sem.run_map, run_places hp, Result.andThen_ok]
    obtain ⟨cells', hf, hr⟩ := fill_rel (S := S) (place := (places.toArray[·]?)) (fun i q hq => by simpa using hq) hcs hxs hxz
    rw [zip_map] at hf
    refine ok_value (v := .agg cells') (x := .agg cs) ?_ hS ⟨cells'.toList, rfl, hr⟩ h
    have e : (ps.toArray.map fun (i, x) => (i, ρ x)).toList = ps.map fun (i, x) => (i, ρ x) := by simp
    have hz' : (zeroValue t).run P S.w = .ok z S.w := by simp [zeroValue, typeInfo, hi, hz]
    simp only [Instr.build, Sem.run_bind, hz', Result.andThen_ok, run_underlying ht, hpl, e, hf, Sem.run_pure]

theorem s_buildA (hS : SRel S H) (t : TypeId) {n : Nat} {e : TypeId} {i j : TypeInfo} {z : Value} {x : AV} (ht : P.underlying t = some (.array n e)) (hi : P.info? t = some i) (hz : i.zero = some z) (hx : avOf z = some x)
    (hj : P.info? e = some j) (hag : ∃ cs, z = .agg cs)
    (ps : List (Nat × Operand)) {xs : List AV} (hxs : VsRel S xs (ps.map fun p => ρ p.2)) (h : stepA P (.build x.cells ((List.range n).map fun q => (q * j.size, j.size)) (ps.map (·.1))) H xs K) :
    OpOk P S ((do pure (Next.value (← Instr.build t (ps.toArray.map fun (i, x) => (i, ρ x)))) : Sem Next).run P S.w) K := by
  simp only [stepA] at h
  · obtain ⟨cs, hcs, h⟩ := optK_elim h
    have hxz := agg_zero (S := S) hag hx
    obtain ⟨cells', hf, hr⟩ := fill_rel (S := S) (place := fun i => some (i * j.size, j.size)) (fun i q hq => by
      rw [List.getElem?_map] at hq
      have hin : i < n := by
        rcases Nat.lt_or_ge i n with h | h
        · exact h
        · rw [List.getElem?_eq_none (by simpa using h)] at hq; cases hq
      rw [List.getElem?_range hin] at hq
      simpa using hq) hcs hxs hxz
    rw [zip_map] at hf
    refine ok_value (v := .agg cells') (x := .agg cs) ?_ hS ⟨cells'.toList, rfl, hr⟩ h
    have e' : (ps.toArray.map fun (i, x) => (i, ρ x)).toList = ps.map fun (i, x) => (i, ρ x) := by simp
    have hz' : (zeroValue t).run P S.w = .ok z S.w := by simp [zeroValue, typeInfo, hi, hz]
    simp only [Instr.build, Sem.run_bind, hz', Result.andThen_ok, run_underlying ht, run_sizeOf' hj, e', hf, Sem.run_pure]

/-- A row of so many zero values. -/
theorem fills_zero {z : Value} {n s : Nat} (h1 : z.cells.size = s) (h2 : ∀ c ∈ z.cells, c.oneCell' = true) : Fills ((Array.range (n * s)).map fun i => z.cells[i % z.cells.size]!) s (List.replicate n z) := by
  intro i v hv
  rw [List.getElem?_replicate] at hv
  split at hv
  · rename_i hi
    cases hv
    refine ⟨h1, h2, fun j hj => ?_⟩
    have : (i + 1) * s ≤ n * s := Nat.mul_le_mul_right _ hi
    rw [Nat.add_mul, Nat.one_mul] at this
    have hlt : i * s + j < n * s := by omega
    rw [Array.getElem?_map, Array.getElem?_range, if_pos hlt]
    have e : (i * s + j) % s = j := by rw [Nat.mul_comm, Nat.mul_add_mod]; exact Nat.mod_eq_of_lt hj
    simp only [Option.map_some, h1, e]
    have hjz : j < z.cells.size := by omega
    simp [hjz]
  · cases hv

theorem fill_fills {w : Nat} (hw : 0 < w) : ∀ {idx : List Nat} {xs : List AV} {len : Nat} {es : List AV} {vs us : List Value} {cells : Array Value}, FitAll w len idx xs → VsRel S xs us → VsRel S es vs → vs.length = len → cells.size = len * w → Fills cells w vs →
    ∃ cells' vs', Instr.fill (fun i => some (i * w, w)) cells (idx.zip us) = some cells' ∧ cells'.size = len * w ∧ VsRel S (setAll idx xs es) vs' ∧ vs'.length = len ∧ Fills cells' w vs'
  | [], [], len, es, vs, us, cells, _, hx, hes, hl, hc, hf => by
    rw [show us = [] from hx]
    exact ⟨cells, vs, rfl, hc, hes, hl, hf⟩
  | i :: is, x :: xs, len, es, vs, us, cells, h, hx, hes, hl, hc, hf => by
    obtain ⟨u, r, rfl, hu, hr⟩ := hx
    obtain ⟨h1, h2, h3, h4⟩ := h
    obtain ⟨k1, k2⟩ := known_value hu h3
    have hsz : u.cells.size = w := by omega
    have hle : (i + 1) * w ≤ len * w := Nat.mul_le_mul_right _ h1
    have hle' := hle
    rw [Nat.add_mul, Nat.one_mul] at hle'
    have hstep := fill_step (i * w) u cells (by omega)
    have hi : i < vs.length := by omega
    have hfs := hf.seg (i := i) (o := 0) (u' := u) (List.getElem?_eq_getElem hi) (l := u.cells.toList) (by simp; omega) (by omega) hsz k2 (fun j hj => by
      rw [if_pos (by simp; omega)]; simp)
    obtain ⟨cells', vs', g1, g2, g3, g4, g5⟩ := fill_fills hw h4 hr (hes.set (i := i) hu) (by simp [hl]) (cells := (seg cells.toList (i * w) u.cells.toList).toArray) (by
      rw [List.size_toArray, seg_length (by simp; omega)]; simpa using hc) (by simpa using hfs)
    refine ⟨cells', vs', ?_, g2, g3, g4, g5⟩
    simp only [List.zip_cons_cons, Instr.fill]
    rw [if_neg (by simp; omega), hstep]
    exact g1
  | [], _ :: _, _, _, _, _, _, h, _, _, _, _, _ => h.elim
  | _ :: _, [], _, _, _, _, _, h, _, _, _, _, _ => h.elim

theorem setAll_length : ∀ (idx : List Nat) (xs es : List AV), (setAll idx xs es).length = es.length
  | [], [], es => rfl
  | [], _ :: _, es => rfl
  | _ :: _, [], es => rfl
  | i :: is, x :: xs, es => by simp [setAll, setAll_length is xs]

theorem VsRel.replicate {x : AV} {v : Value} (h : VRel S x v) : ∀ n, VsRel S (List.replicate n x) (List.replicate n v)
  | 0 => rfl
  | n + 1 => ⟨v, List.replicate n v, rfl, h, VsRel.replicate h n⟩

theorem zero_map (f : Nat → Value) : (Array.range 0).map f = #[] := by simp

/-- A slice that is built: its block, new. -/
theorem bslice_raw {t : TypeId} {e : TypeId} {i : TypeInfo} {z : Value} {x : AV} (len : Nat) (ht : P.underlying t = some (.slice e)) (hi : P.info? e = some i) (hz : i.zero = some z) (hx : avOf z = some x) (h0 : 0 < i.size) (hzs : z.cells.size = i.size)
    (hz1 : ∀ c ∈ z.cells, c.oneCell' = true) (hmax : len * i.size ≤ 2 ^ 24)
    (ps : List (Nat × Operand)) {xs : List AV} (hxs : VsRel S xs (ps.map fun p => ρ p.2)) (hfit : FitAll i.size len (ps.map (·.1)) xs) :
    ∃ cells vs, (do pure (Next.value (← Instr.buildSlice t len (ps.toArray.map fun (i, x) => (i, ρ x)))) : Sem Next).run P S.w = .ok (.value (.slice (some ⟨S.w.heap.size, 0, none⟩) len len)) (S.w.alloc (.cells cells e)) ∧
      cells.size = len * i.size ∧ VsRel S (setAll (ps.map (·.1)) xs (List.replicate len x)) vs ∧ vs.length = len ∧ Fills cells i.size vs := by
  obtain ⟨cells', vs', g1, g2, g3, g4, g5⟩ := fill_fills (S := S) h0 hfit hxs (VsRel.replicate (avOf_rel hx) len) (by simp) (cells := (Array.range (len * i.size)).map fun k => z.cells[k % z.cells.size]!) (by simp) (fills_zero hzs hz1)
  rw [zip_map] at g1
  refine ⟨cells', vs', ?_, g2, g3, g4, g5⟩
  have e' : (ps.toArray.map fun (i, x) => (i, ρ x)).toList = ps.map fun (i, x) => (i, ρ x) := by simp
  have hm : ¬ (len * i.size > 2 ^ 24) := by omega
  have hz' : ∀ w', (zeroValue e).run P w' = .ok z w' := fun w' => by simp [zeroValue, typeInfo, hi, hz]
  by_cases hl0 : len * i.size = 0
  · rw [hl0] at g1
    simp only [Instr.buildSlice, Sem.run_bind, run_underlying ht, Result.andThen_ok, run_sizeOf' hi, hl0, if_true, e', Sem.run_pure, zero_map] at g1 ⊢
    rw [if_neg (by omega)]
    simp only [Sem.run_bind, Sem.run_pure, Result.andThen_ok, zero_map, g1, run_newRow']
  · simp only [Instr.buildSlice, Sem.run_bind, run_underlying ht, Result.andThen_ok, run_sizeOf' hi, hm, hl0, if_false, hz', e', g1, run_newRow', Sem.run_pure]

theorem s_bslice (hS : SRel S H) (t : TypeId) {e : TypeId} {i : TypeInfo} {z : Value} {x : AV} (len : Nat) (ht : P.underlying t = some (.slice e)) (hi : P.info? e = some i) (hz : i.zero = some z) (hx : avOf z = some x) (h0 : 0 < i.size) (hzs : z.cells.size = i.size)
    (hz1 : ∀ c ∈ z.cells, c.oneCell' = true) (hmax : len * i.size ≤ 2 ^ 24)
    (ps : List (Nat × Operand)) {xs : List AV} (hxs : VsRel S xs (ps.map fun p => ρ p.2)) (h : stepA P (.bslice i.size len x (ps.map (·.1))) H xs K) :
    OpOk P S ((do pure (Next.value (← Instr.buildSlice t len (ps.toArray.map fun (i, x) => (i, ρ x)))) : Sem Next).run P S.w) K := by
  simp only [stepA] at h
  obtain ⟨hfit, hK⟩ := h
  obtain ⟨cells', vs', run, g2, g3, g4, g5⟩ := bslice_raw (P := P) (S := S) len ht hi hz hx h0 hzs hz1 hmax ps hxs hfit
  have g := hS.grow cells' e ⟨i.size, 1, true, setAll (ps.map (·.1)) xs (List.replicate len x)⟩ len g2 g3 g5 (by simp [setAll_length]) (by simp [setAll_length]) h0
  exact ok_grow (S' := S.grow (.cells cells' e) 1 len i.size) (v := .slice (some ⟨S.w.heap.size, 0, none⟩) len len) run (Evo.grow hS.im _ _ _ _) g (grow_ref hS _ _ _ _ _ (Nat.le_refl _)) hK

theorem s_mkSlice (hS : SRel S H) (t : TypeId) {e : TypeId} {i : TypeInfo} {z : Value} {x : AV} (ht : P.underlying t = some (.slice e)) (hi : P.info? e = some i) (hz : i.zero = some z) (hx : avOf z = some x) (h0 : 0 < i.size) (hby : 0 < i.bytes) (hzs : z.cells.size = i.size)
    (hz1 : ∀ c ∈ z.cells, c.oneCell' = true) {u v : Value} {xs : List AV} (hxs : VsRel S xs [u, v]) (h : stepA P (.mkSlice i.size i.bytes x) H xs K) :
    OpOk P S ((do pure (Next.value (← Instr.makeSlice t u v)) : Sem Next).run P S.w) K := by
  obtain ⟨a, b, rfl, ha, hb⟩ := hxs.len2
  cases a <;> cases b <;> simp only [stepA] at h <;> try exact h.elim
  rename_i k l k' c
  obtain ⟨h1, h2, h3, hK⟩ := h
  obtain rfl : u = .int k l := ha
  obtain rfl : v = .int k' c := hb
  have hc : c ≤ 140737488355328 := by
    have : c * 1 ≤ c * i.bytes := Int.mul_le_mul_of_nonneg_left (by omega) (by omega)
    omega
  have wl : IntKind.i64.wrap l = l := IntWalk.i64_in _ (by omega)
  have wc : IntKind.i64.wrap c = c := IntWalk.i64_in _ (by omega)
  have hl' : (i.bytes : Int) * l ≤ 140737488355328 := by
    have : l * i.bytes ≤ c * i.bytes := Int.mul_le_mul_of_nonneg_right h2 (by omega)
    rw [Int.mul_comm]; omega
  have hc' : (i.bytes : Int) * c ≤ 140737488355328 := by rw [Int.mul_comm]; exact h3
  have hask : ∀ w', (askRoom (c.toNat * i.bytes)).run P w' = .ok () w' := by
    intro w'
    have : ¬ (c.toNat * i.bytes > roomBytes) := by
      have e : ((c.toNat * i.bytes : Nat) : Int) = c * i.bytes := by rw [Int.natCast_mul, Int.toNat_of_nonneg (by omega)]
      simp only [roomBytes]
      omega
    simp [askRoom, this]
  have g := hS.grow ((Array.range (c.toNat * i.size)).map fun k => z.cells[k % z.cells.size]!) e ⟨i.size, 1, true, List.replicate c.toNat x⟩ c.toNat (by simp) (VsRel.replicate (avOf_rel hx) _) (fills_zero hzs hz1) (by simp) (by simp) h0
  refine ok_grow (v := .slice (some ⟨S.w.heap.size, 0, none⟩) l.toNat c.toNat) (S' := S.grow (.cells _ e) 1 c.toNat i.size) ?_ (Evo.grow hS.im _ _ _ _) g (grow_ref hS _ _ _ _ _ (by omega)) hK
  have t1 : typeInfo e = typeInfo e := rfl
  have hti : ∀ w', (typeInfo e).run P w' = .ok i w' := by intro w'; simp [typeInfo, hi]
  simp only [Instr.makeSlice, Sem.run_bind, run_underlying ht, Result.andThen_ok, asInt, asIntOf, Sem.run_pure, hti, wl, wc]
  have c1 : ¬ (c < 0) := by omega
  have c2 : ¬ ((i.bytes : Int) * c > 2 ^ 48) := by omega
  have c3 : ¬ (l < 0) := by omega
  have c4 : ¬ (l > c) := by omega
  have hz' : ∀ w', (zeroValue e).run P w' = .ok z w' := fun w' => by simp [zeroValue, typeInfo, hi, hz]
  simp only [c1, c2, c3, c4, decide_false, Bool.or_false, Bool.false_eq_true, if_false, Sem.run_bind, hask, Result.andThen_ok, run_sizeOf' hi]
  by_cases hl0 : c.toNat * i.size = 0
  · simp only [hl0, if_true, Sem.run_bind, Sem.run_pure, Result.andThen_ok, zero_map, run_newRow']
    rfl
  · simp only [hl0, if_false, Sem.run_bind, hz', Result.andThen_ok, Sem.run_pure, run_newRow']
    rfl

end
end Go.Proofs.Ytdmjhlofphhldaa.Abs
