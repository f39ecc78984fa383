/-
  The operations of the model do what 'stepA' says: addresses, parts, loads, slices, calls.
-/
import Derived.Test.YtdmjhlofphhldaaAbs5
set_option linter.unusedSimpArgs false
set_option linter.unusedVariables false
namespace Go.Proofs.Ytdmjhlofphhldaa.Abs

/-- A part of a value: so many cells from 'off' on. -/
def partW (a : Bool) (off s : Nat) (u : Value) : Value := if a then .agg (u.cells.extract off (off + s)) else u.cells.getD off undef

theorem cells_one {v : Value} (h : v.oneCell' = true) : v.cells = #[v] := by cases v <;> first | rfl | simp [Value.oneCell'] at h

section
variable {P : Program} {S : MS} {H : AHeap} {ρ : Operand → Value} {K : AV → AHeap → Prop}

theorem VRel.part {x : AV} {u : Value} (hx : x.isAny = false) (h : VRel S x u) {a : Bool} {off s : Nat} (hle : off + s ≤ x.cells.length) (hs : 0 < s) : VRel S (partV a off s x) (partW a off s u) := by
  have hc := h.cells hx
  cases a
  · simp only [partV, partW, Bool.false_eq_true, if_false]
    have hlt : off < x.cells.length := by omega
    obtain ⟨v, hv, hr⟩ := hc.get (List.getElem?_eq_getElem hlt)
    rw [List.getD, List.getElem?_eq_getElem hlt]
    have : u.cells[off]? = some v := by rw [← hv]; simp
    simp only [Array.getD_eq_getD_getElem?, this, Option.getD_some]
    exact hr
  · simp only [partV, partW, if_true]
    refine ⟨(u.cells.extract off (off + s)).toList, rfl, ?_⟩
    have := (hc.drop off).take s
    have e : (u.cells.extract off (off + s)).toList = (u.cells.toList.drop off).take s := by simp
    rw [e]
    exact this

theorem Laid.part {w : World} {b o wd : Nat} {u : Value} (h : Laid w b o wd u) {a : Bool} {off s : Nat} (hle : off + s ≤ wd) (hs : 0 < s) (ha : a = false → s = 1) : Laid w b (o + off) s (partW a off s u) := by
  obtain ⟨h1, h2, h3⟩ := h
  cases a
  · have hs1 := ha rfl
    subst hs1
    have hlt : off < u.cells.size := by omega
    have hone := h2 u.cells[off] (Array.getElem_mem hlt)
    have he : partW false off 1 u = u.cells[off] := by simp [partW, hlt]
    rw [he]
    refine ⟨by rw [cells_one hone]; rfl, fun c hc => ?_, fun j hj => ?_⟩
    · rw [cells_one hone] at hc; simp at hc; rw [hc]; exact hone
    · have : j = 0 := by omega
      subst this
      rw [cells_one hone]
      simpa [hlt] using h3 off (by omega)
  · have he : (partW true off s u).cells = u.cells.extract off (off + s) := by simp [partW, Value.cells]
    refine ⟨by rw [he, Array.size_extract]; omega, fun c hc => ?_, fun j hj => ?_⟩
    · rw [he] at hc
      obtain ⟨i, hi, rfl⟩ := Array.getElem_of_mem hc
      rw [Array.getElem_extract]
      exact h2 _ (Array.getElem_mem _)
    · rw [he, Nat.add_assoc, h3 (off + j) (by omega), Array.getElem?_extract]
      rw [if_pos (by omega)]

theorem pure_get : ∀ {cs : List AV} {i : Nat}, pureL cs = true → (cs.getD i .any).pure = true
  | [], i, _ => by simp [AV.pure]
  | c :: cs, 0, h => by simp only [pureL, Bool.and_eq_true] at h; simpa using h.1
  | c :: cs, i + 1, h => by simp only [pureL, Bool.and_eq_true] at h; simpa using pure_get (i := i) h.2
theorem pureL_drop : ∀ {cs : List AV} {n : Nat}, pureL cs = true → pureL (cs.drop n) = true
  | [], n, _ => by simp [pureL]
  | c :: cs, 0, h => h
  | c :: cs, n + 1, h => by simp only [pureL, Bool.and_eq_true] at h; simpa using pureL_drop (n := n) h.2
theorem pureL_take : ∀ {cs : List AV} {n : Nat}, pureL cs = true → pureL (cs.take n) = true
  | [], n, _ => by simp [pureL]
  | c :: cs, 0, h => by simp [pureL]
  | c :: cs, n + 1, h => by simp only [pureL, Bool.and_eq_true] at h; simpa [pureL, h.1] using pureL_take (n := n) h.2
theorem pureL_append : ∀ {cs ds : List AV}, pureL cs = true → pureL ds = true → pureL (cs ++ ds) = true
  | [], ds, _, h => h
  | c :: cs, ds, h, k => by simp only [pureL, Bool.and_eq_true] at h; simpa [pureL, h.1] using pureL_append h.2 k
theorem AV.pure_cells {x : AV} (h : x.pure = true) : pureL x.cells = true := by
  cases x <;> simp_all [AV.cells, AV.pure, pureL]
theorem pure_part {x : AV} (h : x.pure = true) (a : Bool) (off s : Nat) : (partV a off s x).pure = true := by
  cases a
  · exact pure_get (AV.pure_cells h)
  · exact pureL_take (pureL_drop (AV.pure_cells h))

theorem aggSize_spec {t : TypeId} {a : Bool} {s : Nat} (h : aggSize P t = some (a, s)) : ∃ i d, P.info? t = some i ∧ P.underlying t = some d ∧ isAggD d = a ∧ i.size = s ∧ 0 < s ∧ (a = false → s = 1) := by
  unfold aggSize at h
  split at h
  · rename_i i d hi hd
    split at h
    · rename_i hc
      simp only [Bool.and_eq_true, decide_eq_true_eq, Bool.or_eq_true, beq_iff_eq] at hc
      cases h
      exact ⟨i, d, hi, hd, rfl, rfl, hc.1, fun he => hc.2.resolve_left (by simp [he])⟩
    · cases h
  · cases h

theorem run_isAgg {t : TypeId} {d : TypeDesc} (hd : P.underlying t = some d) (w : World) : (isAgg t).run P w = .ok (isAggD d) w := by
  simp only [isAgg, Sem.run_bind, run_underlying hd, Result.andThen_ok]
  cases d <;> rfl
theorem run_sizeOf' {t : TypeId} {i : TypeInfo} (hi : P.info? t = some i) (w : World) : (sizeOf t).run P w = .ok i.size w := by
  simp [sizeOf, typeInfo, hi]
theorem addr_add (b o n : Nat) : (⟨b, o, none⟩ : Addr).add n = ⟨b, o + n, none⟩ := by
  unfold Addr.add
  split
  · rename_i h; subst h; rfl
  · rfl

theorem run_loadCells_laid {w : World} {b o wd : Nat} {u : Value} (h : Laid w b o wd u) : (loadCells ⟨b, o, none⟩ wd).run P w = .ok u.cells w := by
  have := run_loadCells_list (P := P) w ⟨b, o, none⟩ u.cells.toList (fun j v hv => by
    have hj : j < wd := by
      rw [← h.1]
      have := (List.getElem?_eq_some_iff.1 hv).1
      simpa using this
    rw [addr_add, h.2.2 j hj]
    simpa using hv)
  simp only [Array.length_toList, Array.toArray_toList] at this
  rw [← h.1]
  exact this

theorem run_load_laid {t : TypeId} {a : Bool} {s : Nat} (ht : aggSize P t = some (a, s)) {w : World} {b o wd off : Nat} {u : Value} (h : Laid w b o wd u) (hle : off + s ≤ wd) :
    (loadVar t ⟨b, o + off, none⟩).run P w = .ok (partW a off s u) w := by
  obtain ⟨i, d, hi, hd, ha, hsz, h0, h1⟩ := aggSize_spec ht
  have hp := h.part (a := a) hle h0 h1
  simp only [loadVar, Sem.run_bind, run_isAgg hd, ha, Result.andThen_ok]
  cases a
  · have hs1 := h1 rfl
    subst hs1
    obtain ⟨p1, p2, p3⟩ := hp
    have hlt : off < u.cells.size := by have := h.1; omega
    have hone := h.2.1 u.cells[off] (Array.getElem_mem hlt)
    have he : partW false off 1 u = u.cells[off] := by simp [partW, hlt]
    have := p3 0 (by omega)
    rw [he, cells_one hone] at this
    simp only [Nat.add_zero] at this
    rw [he]
    simp [this]
  · simp only [if_true, Sem.run_bind, run_sizeOf' hi, hsz, Result.andThen_ok, run_loadCells_laid hp]
    have : (partW true off s u).cells = u.cells.extract off (off + s) := by simp [partW, Value.cells]
    simp only [this, Sem.run_pure]
    simp [partW]

/-- An element of a live group. -/
theorem GRel.elem {G : Grp} {g : Nat} (h : GRel S G g) (hw : 0 < G.w) {i : Nat} (hi : i < G.xs.length) : ∃ u, VRel S (G.xs.getD i .any) u ∧ Laid S.w (S.place g) (i * G.w) G.w u := by
  have hlen := h.len hw
  obtain ⟨⟨cells, T, vs, h1, h2, h3, h4⟩, _⟩ := h.live hw (by omega)
  obtain ⟨u, hu, hr⟩ := h3.get (List.getElem?_eq_getElem hi)
  refine ⟨u, by rw [List.getD, List.getElem?_eq_getElem hi]; exact hr, ?_⟩
  have := h4.row h1 i u hu
  simpa using this

theorem s_nilCheck (hS : SRel S H) {v : Value} {xs : List AV} (hx : VsRel S xs [v]) (h : stepA P .nilCheck H xs K) (x : Operand) (o : Oper) (ho : o.op = .nilCheck x) (hv : ρ x = v) : OpOk P S ((execOp ρ o).run P S.w) K := by
  obtain ⟨y, rfl, hr⟩ := hx.len1
  obtain ⟨dst, op, ty, pos, after, gd⟩ := o
  subst ho
  cases y <;> simp only [stepA] at h <;> try exact h.elim
  · obtain ⟨_, b, o, u, hv', hi, hx', hl⟩ := hr
    have hr' : VRel S (.cptr _) v := ⟨‹_›, b, o, u, hv', hi, hx', hl⟩
    exact ok_value (by simp [execOp, hv, hv']) hS (hv' ▸ hr') h
  · have hr' := hr
    obtain ⟨⟨a, ha⟩, _⟩ := hr
    exact ok_value (by simp [execOp, hv, ha]) hS (ha ▸ hr') h
  · have hr' := hr
    obtain ⟨vs, ha, _⟩ := hr
    exact ok_value (by simp [execOp, hv, ha]) hS (ha ▸ hr') h

theorem SRel.live_of {g : Nat} (hS : SRel S H) (hg : g < S.n) : GRel S (H.at_ g) g := hS.grp g (by rw [← hS.n]; exact hg)

theorem load_raw (hS : SRel S H) (t : TypeId) {a : Bool} {s : Nat} (ht : aggSize P t = some (a, s)) {v : Value} {y : AV} (hr : VRel S y v) (h : stepA P (.load a s) H [y] K) :
    ∃ ad u z, v = .pointer (some ad) ∧ (loadVar t ad).run P S.w = .ok u S.w ∧ VRel S z u ∧ K z H := by
  obtain ⟨_, _, _, _, _, _, h0, hs1⟩ := aggSize_spec ht
  cases y <;> simp only [stepA] at h <;> try exact h.elim
  · rename_i x
    obtain ⟨h1, h2, h3, hK⟩ := h
    obtain ⟨hp, b, o, u, rfl, hi, hx, hl⟩ := hr
    have hle : 0 + s ≤ u.cells.size := by have := (hx.cells h1).length; simp at this; omega
    have := run_load_laid (P := P) ht hl hle
    simp only [Nat.add_zero] at this
    exact ⟨_, _, _, rfl, this, hx.part h1 (by omega) h0, hK⟩
  · rename_i g vn i o
    obtain ⟨h1, h2, h3, h4, h5, h6, h7, hK⟩ := h
    obtain ⟨_, hg, hc, hp⟩ := hr
    have hG := hS.live_of hg
    obtain rfl : v = _ := hp (by rw [hG.ver, h1])
    obtain ⟨u, hu, hl⟩ := hG.elem (by omega) h2
    have := run_load_laid (P := P) ht hl (off := o) h6
    rw [hG.wid]
    exact ⟨_, _, _, rfl, this, hu.part h3 (by omega) h0, hK⟩

theorem s_load (hS : SRel S H) (t : TypeId) {a : Bool} {s : Nat} (ht : aggSize P t = some (a, s)) {v : Value} {xs : List AV} (hx : VsRel S xs [v]) (h : stepA P (.load a s) H xs K) :
    OpOk P S ((do pure (Next.value (← Instr.loadAt t v)) : Sem Next).run P S.w) K := by
  obtain ⟨y, rfl, hr⟩ := hx.len1
  obtain ⟨ad, u, z, rfl, hrun, hz, hK⟩ := load_raw hS t ht hr h
  exact ok_value (by simp [Instr.loadAt, Instr.sureAddr, hrun]) hS hz hK

theorem s_faddr (hS : SRel S H) (t : TypeId) (f : Nat) {fs : Array Field} {fl : Field} (ht : P.underlying t = some (.struct fs)) (hf : fs[f]? = some fl) {a : Bool} {s : Nat} (hs : aggSize P fl.type = some (a, s))
    {v : Value} {xs : List AV} (hx : VsRel S xs [v]) (h : stepA P (.faddr a fl.offset s) H xs K) :
    OpOk P S ((do pure (Next.value (← Instr.fieldAt t v f)) : Sem Next).run P S.w) K := by
  obtain ⟨y, rfl, hr⟩ := hx.len1
  obtain ⟨i, d, hi, _, _, hsz, h0, hs1⟩ := aggSize_spec hs
  have run : ∀ b o, (Instr.fieldAt t (.pointer (some ⟨b, o, none⟩)) f).run P S.w = .ok (.pointer (some ⟨b, o + fl.offset, none⟩)) S.w := by
    intro b o
    have : ¬ i.size = 0 := by omega
    simp [Instr.fieldAt, run_underlying ht, hf, Instr.sureAddr, fieldPlace, run_sizeOf' hi, this, addr_add]
  cases y <;> simp only [stepA] at h <;> try exact h.elim
  · rename_i x
    obtain ⟨h1, h2, h3, h4, hK⟩ := h
    obtain ⟨hp, b, o, u, rfl, him, hx, hl⟩ := hr
    have hle : fl.offset + s ≤ u.cells.size := by have := (hx.cells h1).length; simp at this; omega
    have hl' := hl.part (a := a) hle h0 hs1
    refine ok_value (by simp [run b o]; rfl) hS ?_ hK
    exact ⟨pure_part hp _ _ _, b, o + fl.offset, partW a fl.offset s u, rfl, him, hx.part h1 h2 h0, by rw [hl'.1]; exact hl'⟩
  · rename_i g vn i o
    obtain ⟨h1, hK⟩ := h
    obtain ⟨_, hg, hc, hp⟩ := hr
    have hG := hS.live_of hg
    have e : S.cur g = vn := by rw [hG.ver, h1]
    obtain rfl : v = _ := hp e
    refine ok_value (by simp [run]; rfl) hS ?_ hK
    exact ⟨⟨_, rfl⟩, hg, hc, fun _ => by rw [Nat.add_assoc]⟩

theorem run_part {t : TypeId} {a : Bool} {s off : Nat} (hs : aggSize P t = some (a, s)) {cs : Array Value} (hle : off + s ≤ cs.size) : (part t cs off).run P S.w = .ok (partW a off s (.agg cs)) S.w := by
  obtain ⟨i, d, hi, hd, ha, hsz, h0, hs1⟩ := aggSize_spec hs
  simp only [part, Sem.run_bind, run_isAgg hd, Result.andThen_ok, ha]
  cases a
  · have hlt : off < cs.size := by omega
    simp [partW, Value.cells, hlt]
  · simp [run_sizeOf' hi, hsz, partW, Value.cells]

theorem agg_len {cs : List AV} {vs : List Value} (h : VsRel S cs vs) : vs.toArray.size = cs.length := by simp [h.length]

theorem s_field (hS : SRel S H) (t : TypeId) (f : Nat) {fs : Array Field} {fl : Field} (ht : P.underlying t = some (.struct fs)) (hf : fs[f]? = some fl) {a : Bool} {s : Nat} (hs : aggSize P fl.type = some (a, s))
    {v : Value} {xs : List AV} (hx : VsRel S xs [v]) (h : stepA P (.field a fl.offset s) H xs K) :
    OpOk P S ((do pure (Next.value (← Instr.field t v f)) : Sem Next).run P S.w) K := by
  obtain ⟨y, rfl, hr⟩ := hx.len1
  obtain ⟨_, _, _, _, _, _, h0, hs1⟩ := aggSize_spec hs
  cases y <;> simp only [stepA] at h <;> try exact h.elim
  rename_i cs
  obtain ⟨h1, h2, hK⟩ := h
  have hr' := hr
  obtain ⟨vs, rfl, hvs⟩ := hr
  exact ok_value (by simp [Instr.field, run_underlying ht, hf, asAgg, run_part (S := S) hs (cs := vs.toArray) (off := fl.offset) (by rw [agg_len hvs]; exact h1)]) hS (hr'.part rfl h1 h0) hK

theorem s_index (hS : SRel S H) (t e : TypeId) {n : Nat} (ht : P.underlying t = some (.array n e)) {a : Bool} {s : Nat} (hs : aggSize P e = some (a, s))
    {v ix : Value} {xs : List AV} (hx : VsRel S xs [v, ix]) (h : stepA P (.index n s a) H xs K) :
    OpOk P S ((do pure (Next.value (← Instr.index t v ix)) : Sem Next).run P S.w) K := by
  obtain ⟨y, z, rfl, hr, hz⟩ := hx.len2
  obtain ⟨i, _, hi, _, _, hsz, h0, hs1⟩ := aggSize_spec hs
  cases y <;> cases z <;> simp only [stepA] at h <;> try exact h.elim
  rename_i cs k j
  obtain ⟨h1, h2, h3, h4, hK⟩ := h
  obtain rfl : ix = .int k j := hz
  have hr' := hr
  obtain ⟨vs, rfl, hvs⟩ := hr
  have hle : j.toNat * s + s ≤ cs.length := by
    have : (j.toNat + 1) * s ≤ n * s := Nat.mul_le_mul_right _ (by omega)
    rw [Nat.add_mul, Nat.one_mul] at this
    omega
  exact ok_value (by simp [Instr.index, asIntOf, run_underlying ht, h1, h2, run_sizeOf' hi, hsz, run_part (S := S) hs (cs := vs.toArray) (off := j.toNat * s) (by rw [agg_len hvs]; exact hle)]) hS (hr'.part rfl hle h0) hK

theorem s_indexStr (hS : SRel S H) (t : TypeId) (ht : P.underlying t = some .string) {v ix : Value} {xs : List AV} (hx : VsRel S xs [v, ix]) (h : stepA P .indexStr H xs K) :
    OpOk P S ((do pure (Next.value (← Instr.index t v ix)) : Sem Next).run P S.w) K := by
  obtain ⟨y, z, rfl, hr, hz⟩ := hx.len2
  cases y <;> cases z <;> simp only [stepA] at h <;> try exact h.elim
  rename_i s k j
  obtain ⟨h1, h2, hK⟩ := h
  obtain rfl : ix = .int k j := hz
  obtain rfl : v = .string ⟨s.toArray⟩ := hr
  have hlt : j.toNat < s.length := by omega
  have e : (⟨s.toArray⟩ : ByteArray)[j.toNat]? = some (s.getD j.toNat 0) := by
    show (if h : j.toNat < (⟨s.toArray⟩ : ByteArray).size then some _ else none) = _
    rw [dif_pos (by rw [bsize]; exact hlt)]
    simp [List.getD, List.getElem?_eq_getElem hlt]
    rfl
  exact ok_value (x := .int .u8 _) (by simp [Instr.index, asIntOf, run_underlying ht, h1, e]) hS rfl hK

theorem s_extract (hS : SRel S H) (i : Nat) {v : Value} {xs : List AV} (hx : VsRel S xs [v]) (h : stepA P (.extract i) H xs K) :
    OpOk P S ((do pure (Next.value (← Instr.extract v i)) : Sem Next).run P S.w) K := by
  obtain ⟨y, rfl, hr⟩ := hx.len1
  cases y <;> simp only [stepA] at h <;> try exact h.elim
  rename_i vs
  obtain ⟨us, rfl, hvs⟩ := hr
  obtain ⟨u, hu, hr⟩ := hvs.get (List.getElem?_eq_getElem h.1)
  refine ok_value (v := u) (x := vs.getD i .any) (by simp [Instr.extract, hu]) hS ?_ h.2
  rw [List.getD, List.getElem?_eq_getElem h.1]
  exact hr

theorem s_max (hS : SRel S H) (ts : Array TypeId) (ty : TypeId) (cs : Array Bool) {u v : Value} {xs : List AV} (hx : VsRel S xs [u, v]) (h : stepA P .max H xs K) :
    OpOk P S ((builtin .max ts ty cs #[u, v]).run P S.w) K := by
  obtain ⟨x, y, rfl, hu, hv⟩ := hx.len2
  cases x <;> cases y <;> simp only [stepA] at h <;> try exact h.elim
  rename_i k a k' b
  obtain rfl : u = .int k a := hu
  obtain rfl : v = .int k' b := hv
  refine ok_value (v := .int k (max a b)) (x := .int k _) ?_ hS rfl h.2
  simp only [builtin, Builtin.max_, List.foldlM_cons, List.foldlM_nil, Builtin.max2, Sem.run_bind, Sem.run_pure, Result.andThen_ok]
  congr 3
  rw [Int.max_def]; split <;> split <;> omega

theorem s_min (hS : SRel S H) (ts : Array TypeId) (ty : TypeId) (cs : Array Bool) {u v : Value} {xs : List AV} (hx : VsRel S xs [u, v]) (h : stepA P .min H xs K) :
    OpOk P S ((builtin .min ts ty cs #[u, v]).run P S.w) K := by
  obtain ⟨x, y, rfl, hu, hv⟩ := hx.len2
  cases x <;> cases y <;> simp only [stepA] at h <;> try exact h.elim
  rename_i k a k' b
  obtain rfl : u = .int k a := hu
  obtain rfl : v = .int k' b := hv
  refine ok_value (v := .int k (min a b)) (x := .int k _) ?_ hS rfl h.2
  simp only [builtin, Builtin.min_, List.foldlM_cons, List.foldlM_nil, Builtin.min2, Sem.run_bind, Sem.run_pure, Result.andThen_ok]
  congr 3
  rw [Int.min_def]; split <;> split <;> omega

theorem s_iaddr (hS : SRel S H) (t e : TypeId) {i : TypeInfo} (ht : P.underlying t = some (.slice e)) (hi : P.info? e = some i) (h0 : 0 < i.size)
    {v ix : Value} {xs : List AV} (hx : VsRel S xs [v, ix]) (h : stepA P (.iaddr i.size) H xs K) :
    OpOk P S ((do pure (Next.value (← Instr.indexAt t v ix)) : Sem Next).run P S.w) K := by
  obtain ⟨y, z, rfl, hr, hz⟩ := hx.len2
  have run : ∀ b o (len cap : Nat) k (j : Int), 0 ≤ j → j < len → (Instr.indexAt t (.slice (some ⟨b, o, none⟩) len cap) (.int k j)).run P S.w = .ok (.pointer (some ⟨b, o + j.toNat * i.size, none⟩)) S.w := by
    intro b o len cap k j h1 h2
    simp [Instr.indexAt, asIntOf, run_underlying ht, h1, h2, run_sizeOf' hi, addr_add]
  cases y <;> cases z <;> simp only [stepA] at h <;> try exact h.elim
  · rename_i w' xs k j
    obtain ⟨h1, h2, h3, hK⟩ := h
    subst h1
    obtain rfl : ix = .int k j := hz
    obtain ⟨hp, hw, a, cap, vs, rfl, hcap, hvs, hr⟩ := hr
    have hlt : j.toNat < xs.length := by omega
    obtain ⟨b, o, rfl, him, hrow⟩ := hr (fun hh => by rw [hh] at hlt; simp at hlt)
    obtain ⟨u, hu, hru⟩ := hvs.get (List.getElem?_eq_getElem hlt)
    have hl := hrow _ _ hu
    refine ok_value (by simp [run b o xs.length cap k j h2 (by omega)]; rfl) hS ?_ hK
    refine ⟨pure_get hp, b, _, u, rfl, him, ?_, by rw [hl.1]; exact hl⟩
    rw [List.getD, List.getElem?_eq_getElem hlt]
    exact hru
  · rename_i w' xs k j
    obtain ⟨h1, h2, h3, hK⟩ := h
    subst h1
    obtain rfl : ix = .int k j := hz
    obtain ⟨hp, hw, a, cap, vs, rfl, hcap, hvs, hr⟩ := full_lst hr
    have hlt : j.toNat < xs.length := by omega
    obtain ⟨b, o, rfl, him, hrow⟩ := hr (fun hh => by rw [hh] at hlt; simp at hlt)
    obtain ⟨u, hu, hru⟩ := hvs.get (List.getElem?_eq_getElem hlt)
    have hl := hrow _ _ hu
    refine ok_value (by simp [run b o xs.length cap k j h2 (by omega)]; rfl) hS ?_ hK
    refine ⟨pure_get hp, b, _, u, rfl, him, ?_, by rw [hl.1]; exact hl⟩
    rw [List.getD, List.getElem?_eq_getElem hlt]
    exact hru
  · rename_i g vn off len k j
    obtain ⟨h1, h2, h3, h4, hK⟩ := h
    obtain rfl : ix = .int k j := hz
    obtain ⟨_, hg, hc, hp⟩ := hr
    have hG := hS.live_of hg
    have ec : S.cur g = vn := by rw [hG.ver, h1]
    obtain ⟨a, cap', rfl, hcase⟩ := hp ec
    rcases hcase with ⟨rfl, hcap, hle⟩ | ⟨hl, _⟩
    · refine ok_value (by simp [run _ _ len cap' k j h3 (by omega)]; rfl) hS ?_ hK
      refine ⟨⟨_, rfl⟩, hg, hc, fun _ => ?_⟩
      rw [hG.wid, h2, Nat.add_mul, Nat.add_zero]
    · omega

theorem s_iaddrA (hS : SRel S H) (t e : TypeId) {n : Nat} (ht : P.underlying t = some (.array n e)) {a : Bool} {s : Nat} (hs : aggSize P e = some (a, s)) (hn : ¬ n ≤ 1)
    {v ix : Value} {xs : List AV} (hx : VsRel S xs [v, ix]) (h : stepA P (.iaddrA n s a) H xs K) :
    OpOk P S ((do pure (Next.value (← Instr.indexAt t v ix)) : Sem Next).run P S.w) K := by
  obtain ⟨y, z, rfl, hr, hz⟩ := hx.len2
  obtain ⟨i, _, hi, _, _, hsz, h0, hs1⟩ := aggSize_spec hs
  have run : ∀ b o k (j : Int), 0 ≤ j → j < n → (Instr.indexAt t (.pointer (some ⟨b, o, none⟩)) (.int k j)).run P S.w = .ok (.pointer (some ⟨b, o + j.toNat * s, none⟩)) S.w := by
    intro b o k j h1 h2
    simp [Instr.indexAt, asIntOf, run_underlying ht, h1, h2, run_sizeOf' hi, addr_add, Instr.sureAddr, hsz]
  cases y <;> cases z <;> simp only [stepA] at h <;> try exact h.elim
  · rename_i x k j
    obtain ⟨h1, h2, h3, h4, h5, h6, hK⟩ := h
    obtain rfl : ix = .int k j := hz
    obtain ⟨hp, b, o, u, rfl, him, hx, hl⟩ := hr
    have hle : j.toNat * s + s ≤ x.cells.length := by
      have : (j.toNat + 1) * s ≤ n * s := Nat.mul_le_mul_right _ (by omega)
      rw [Nat.add_mul, Nat.one_mul] at this
      omega
    have hle' : j.toNat * s + s ≤ u.cells.size := by have := (hx.cells h1).length; simp at this; omega
    have hl' := hl.part (a := a) hle' h0 hs1
    refine ok_value (by simp [run b o k j h2 h3]; rfl) hS ?_ hK
    exact ⟨pure_part hp _ _ _, b, o + j.toNat * s, partW a _ s u, rfl, him, hx.part h1 hle h0, by rw [hl'.1]; exact hl'⟩
  · rename_i g vn q o k j
    obtain ⟨h1, h2, h3, hK⟩ := h
    obtain rfl : ix = .int k j := hz
    obtain ⟨_, hg, hc, hp⟩ := hr
    have hG := hS.live_of hg
    obtain rfl : v = _ := hp (by rw [hG.ver, h1])
    refine ok_value (by simp [run _ _ k j h2 h3]; rfl) hS ?_ hK
    exact ⟨⟨_, rfl⟩, hg, hc, fun _ => by rw [Nat.add_assoc]⟩

end
end Go.Proofs.Ytdmjhlofphhldaa.Abs
