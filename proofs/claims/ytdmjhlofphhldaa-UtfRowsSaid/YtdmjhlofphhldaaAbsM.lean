/-
  Maps: a map that this call made is a group; what is looked up there, what is put there.
-/
import Derived.Test.YtdmjhlofphhldaaAbs9
import Derived.MapKept
import Derived.MapFrom
set_option linter.unusedSimpArgs false
set_option linter.unusedVariables false
namespace Go.Proofs.Ytdmjhlofphhldaa.Abs
section
variable {P : Program} {S : MS} {H : AHeap} {K : AV → AHeap → Prop}

theorem SRel.growM (h : SRel S H) : SRel (S.grow (.map #[] 0) 1 0 0) (H.push ⟨0, 1, true, []⟩) where
  n := by show S.n + 1 = H.n + 1; rw [h.n]
  grp g hg := by
    have e := Evo.grow h.im (.map #[] 0) 1 0 0
    by_cases hgn : g = H.n
    · subst hgn
      rw [AHeap.push_new]
      refine ⟨?_, ?_, fun h0 => absurd h0 (Nat.lt_irrefl _), fun h0 => absurd h0 (Nat.lt_irrefl _), fun h0 => absurd h0 (Nat.lt_irrefl _), fun _ _ => ⟨⟨#[], 0, ?_, rfl⟩, ?_⟩⟩
      · show fput _ _ _ _ = _; rw [← h.n, fput_same]
      · show fput _ _ _ _ = _; rw [← h.n, fput_same]
      · show (S.w.alloc _).heap[fput _ _ _ _]? = _; rw [← h.n, fput_same]; exact Abs.heap_alloc_new _ _
      · show ¬ (S.im (fput _ _ _ _) ∨ S.keep (fput _ _ _ _)); rw [← h.n, fput_same]; intro hh; have := h.im _ hh; omega
    · have hg' : g < H.n := by have : g < H.n + 1 := hg; omega
      rw [AHeap.push_old _ _ hg']
      have hr := h.grp g hg'
      refine hr.mono' e (by rw [h.n]; exact hg') ?_ (fun hh => Abs.heap_alloc_lt _ _ _ (hr.has_lt hh)) (fun hh => hr.has_ni hh)
      show fput _ _ _ _ = _; rw [fput_ne _ _ (by rw [h.n]; omega)]
  apart g g' hg hg' hne hw1 hw2 := by
    have key : ∀ k, k < H.n + 1 → ((H.push ⟨0, 1, true, []⟩).at_ k).has (fput S.cap S.n 0 k) → (k = H.n ∧ fput S.place S.n S.w.heap.size k = S.w.heap.size) ∨ (k < H.n ∧ fput S.place S.n S.w.heap.size k = S.place k ∧ S.place k < S.w.heap.size ∧ (H.at_ k).has (S.cap k)) := by
      intro k hk hwk
      by_cases hkn : k = H.n
      · left; refine ⟨hkn, ?_⟩; rw [hkn, ← h.n, fput_same]
      · right
        have hk' : k < H.n := by omega
        rw [AHeap.push_old _ _ hk'] at hwk
        rw [fput_ne _ _ (by rw [h.n]; omega)] at hwk
        exact ⟨hk', fput_ne _ _ (by rw [h.n]; omega), (h.grp k hk').has_lt hwk, hwk⟩
    show fput _ _ _ _ ≠ fput _ _ _ _
    rcases key g hg hw1 with ⟨a1, a2⟩ | ⟨a1, a2, a3, a4⟩ <;> rcases key g' hg' hw2 with ⟨b1, b2⟩ | ⟨b1, b2, b3, b4⟩
    · omega
    · rw [a2, b2]; omega
    · rw [a2, b2]; omega
    · rw [a2, b2]; exact h.apart g g' a1 b1 hne a4 b4
  im b hb := by show b < (S.w.alloc _).heap.size; rw [Abs.size_alloc]; have := h.im b hb; omega

/-- Another content of a map. -/
theorem SRel.setM (h : SRel S H) {g : Nat} (hg : g < H.n) (hw : (H.at_ g).w = 0) (he : (H.at_ g).exact = true) (w' : World)
    (h1 : w'.os = S.w.os) (h2 : w'.tape = S.w.tape) (h3 : w'.output = S.w.output) (h4 : w'.heap.size = S.w.heap.size) (h5 : ∀ b, b ≠ S.place g → w'.heap[b]? = S.w.heap[b]?)
    {es : Array MapEntry} {clock : Nat} (hb : w'.heap[S.place g]? = some (.map es clock)) {ys : List AV} (hv : VsRel S ys (flatE es)) :
    Evo S { S with w := w' } ∧ SRel { S with w := w' } (H.set g ⟨0, (H.at_ g).ver, true, ys⟩) := by
  have hr := h.grp g hg
  have hni := (hr.mlive hw he).2
  have e : Evo S { S with w := w' } := ⟨rfl, h1, h2, h3, Nat.le_of_eq h4.symm, fun b hb => h5 b (fun hh => hni (hh ▸ hb)), fun _ hh => hh, fun _ hh => hh, fun _ hh => .inl hh, Nat.le_refl _, fun _ _ => Nat.le_refl _, fun _ _ _ => ⟨rfl, rfl, rfl⟩⟩
  have hat : ∀ j, (H.set g ⟨0, (H.at_ g).ver, true, ys⟩).at_ j = if j = g then ⟨0, (H.at_ g).ver, true, ys⟩ else H.at_ j := fun j => rfl
  have hhas : ∀ j, ((H.set g ⟨0, (H.at_ g).ver, true, ys⟩).at_ j).has (S.cap j) → (H.at_ j).has (S.cap j) := fun j hj => by
    rw [hat] at hj
    split at hj
    · rename_i hjg; subst hjg; exact .inr ⟨hw, he⟩
    · exact hj
  refine ⟨e, h.n, fun k hk => ?_, fun k k' hk hk' hne hw1 hw2 => h.apart k k' hk hk' hne (hhas k hw1) (hhas k' hw2), fun b hb => by show b < w'.heap.size; rw [h4]; exact h.im b hb⟩
  rw [hat]
  by_cases hkg : k = g
  · subst hkg
    rw [if_pos rfl]
    exact ⟨hr.ver, hr.wid.trans hw, fun h0 => absurd h0 (Nat.lt_irrefl _), fun h0 => absurd h0 (Nat.lt_irrefl _), fun h0 => absurd h0 (Nat.lt_irrefl _), fun _ _ => ⟨⟨es, clock, hb, VsRel.mono e _ hv⟩, hni⟩⟩
  · rw [if_neg hkg]
    have hrk := h.grp k hk
    exact hrk.mono' e (by rw [h.n]; exact hk) rfl (fun hq => h5 _ (h.apart k g hk hg hkg hq (.inr ⟨hw, he⟩))) (fun hq => hrk.has_ni hq)

theorem s_mkMap (hS : SRel S H) (t : TypeId) (h : stepA P .mkMap H [] K) : OpOk P S ((do pure (Next.value (← Instr.makeMap t none)) : Sem Next).run P S.w) K := by
  simp only [stepA] at h
  refine ok_grow (S' := S.grow (.map #[] 0) 1 0 0) (v := .map (some S.w.heap.size)) ?_ (Evo.grow hS.im _ _ _ _) hS.growM ?_ h
  · simp [Instr.makeMap]; rfl
  · refine ⟨⟨_, rfl⟩, ?_, ?_, fun _ => ?_⟩
    · show H.n < S.n + 1; rw [hS.n]; omega
    · show 1 ≤ fput _ _ _ _; rw [← hS.n, fput_same]; exact Nat.le_refl _
    · show _ = Value.map (some (fput _ _ _ _)); rw [← hS.n, fput_same]

def fE (e : MapEntry) : List Value := [e.key, e.val]
theorem fE_eq (e : MapEntry) : fE e = [e.key, e.val] := rfl
theorem flatE_eq (es : Array MapEntry) : flatE es = es.toList.flatMap fE := rfl
def KeyI (v : Value) : Prop := ∃ m, v = .int .i64 m
theorem isKey_int {d : TypeDesc} (hd : d = .int .i64) (n : Int) : MapKept.IsKey d (.int .i64 n) := by subst hd; simp [MapKept.IsKey]
/-- What is found. -/
theorem find_spec (n : Int) {z : AV} : ∀ {xs : List AV} {es : List MapEntry} {y : AV} (i : Nat), VsRel S xs (es.flatMap fE) → findM z n xs = some y →
    ((∀ e ∈ es, KeyI e.key) ∨ True) → (Instr.findNow (.int .i64) (.int .i64 n) es i = some none ∧ y = z) ∨ ∃ (j : Nat) (e : MapEntry), Instr.findNow (.int .i64) (.int .i64 n) es i = some (some (j, e.val)) ∧ VRel S y e.val
  | xs, [], y, i, hx, hf, _ => by
    have : xs = [] := by
      have := hx.length
      simp only [List.flatMap_nil, List.length_nil] at this
      exact List.eq_nil_of_length_eq_zero this.symm
    subst this
    simp only [findM, Option.some.injEq] at hf
    exact .inl ⟨rfl, hf.symm⟩
  | xs, e :: es, y, i, hx, hf, hk => by
    simp only [List.flatMap_cons, fE_eq, List.cons_append, List.nil_append] at hx
    match xs, hx, hf with
    | [], hx, _ => exact absurd hx.length (by simp)
    | [_], hx, _ => exact absurd hx.length (by simp)
    | x :: u :: r, hx, hf =>
      obtain ⟨hx1, hx2⟩ := hx.cons_inv
      obtain ⟨hu, hr⟩ := hx2.cons_inv
      cases x <;> try simp only [findM, reduceCtorEq] at hf
      rename_i k m
      cases k <;> try simp only [findM, reduceCtorEq] at hf
      have hkey : e.key = .int .i64 m := hx1
      by_cases hmn : m = n
      · rw [if_pos hmn] at hf
        cases hf
        exact .inr ⟨i, e, by simp [Instr.findNow, Instr.sameNow, hkey, hmn], hu⟩
      · rw [if_neg hmn] at hf
        have hnm : (n == m) = false := by simp; omega
        have := find_spec n (i + 1) hr hf (.inr trivial)
        simp only [Instr.findNow, Instr.sameNow, hkey, if_true, hnm]
        exact this

theorem s_mapGet (hS : SRel S H) (t : TypeId) {k e : TypeId} {i : TypeInfo} {zv : Value} {z : AV} (ht : P.underlying t = some (.map k e)) (hk : P.underlying k = some (.int .i64)) (hi : P.info? e = some i) (hz : i.zero = some zv) (hzx : avOf zv = some z)
    {u v : Value} {xs : List AV} (hx : VsRel S xs [u, v]) (h : stepA P (.mapGet z) H xs K) : OpOk P S ((do pure (Next.value (← Instr.lookup t u v false)) : Sem Next).run P S.w) K := by
  obtain ⟨a, b, rfl, ha, hb⟩ := hx.len2
  cases a <;> cases b <;> simp only [stepA] at h <;> try exact h.elim
  rename_i g vn kk n
  obtain ⟨rfl, h1, h2, h3, hq⟩ := h
  obtain ⟨y, hf, hK⟩ := optK_elim hq
  obtain rfl : v = .int .i64 n := hb
  obtain ⟨_, hg, _, hc⟩ := ha
  have hG := hS.live_of hg
  obtain rfl : u = _ := hc (by rw [hG.ver, h1])
  obtain ⟨⟨es, clock, hb, hv⟩, _⟩ := hG.mlive h2 h3
  have hck : ∀ (em : Bool), (Instr.checkKey em 10000 k (.int .i64 n)).run P S.w = .ok () S.w := fun em => MapKept.run_checkKey hk (isKey_int rfl n) em 9999
  have hzr : (zeroValue e).run P S.w = .ok zv S.w := by simp [zeroValue, typeInfo, hi, hz]
  rcases find_spec n 0 hv hf (.inr trivial) with ⟨hfn, rfl⟩ | ⟨j, en, hfn, hy⟩
  · have hfk := MapKept.run_findKey (P := P) (w := S.w) hk hfn
    refine ok_value (v := zv) ?_ hS (avOf_rel hzx) hK
    simp [Instr.lookup, run_underlying ht, MapKept.run_getObj_map hb, hck, hfk, hzr]
  · have hfk := MapKept.run_findKey (P := P) (w := S.w) hk hfn
    refine ok_value (v := en.val) ?_ hS hy hK
    simp [Instr.lookup, run_underlying ht, MapKept.run_getObj_map hb, hck, hfk]

/-- What is put. -/
theorem set_spec (n : Int) {x : AV} {u : Value} (hxu : VRel S x u) (clock : Nat) : ∀ {xs : List AV} {es : List MapEntry} {ys : List AV} (i : Nat), VsRel S xs (es.flatMap fE) → setM n x xs = some ys →
    (Instr.findNow (.int .i64) (.int .i64 n) es i = some none ∧ ∀ b, VsRel S ys ((es ++ [({ key := .int .i64 n, val := u, born := b } : MapEntry)]).flatMap fE)) ∨
    ∃ (j : Nat) (e : MapEntry), Instr.findNow (.int .i64) (.int .i64 n) es i = some (some (i + j, e.val)) ∧ es[j]? = some e ∧ e.key = .int .i64 n ∧ VsRel S ys ((es.modify j fun (e : MapEntry) => { e with key := .int .i64 n, val := u }).flatMap fE)
  | xs, [], ys, i, hx, hf => by
    have : xs = [] := by
      have := hx.length
      simp only [List.flatMap_nil, List.length_nil] at this
      exact List.eq_nil_of_length_eq_zero this.symm
    subst this
    simp only [setM, Option.some.injEq] at hf
    subst hf
    exact .inl ⟨rfl, fun b => ⟨_, _, rfl, rfl, _, _, rfl, hxu, rfl⟩⟩
  | xs, e :: es, ys, i, hx, hf => by
    simp only [List.flatMap_cons, fE_eq, List.cons_append, List.nil_append] at hx
    match xs, hx, hf with
    | [], hx, _ => exact absurd hx.length (by simp)
    | [_], hx, _ => exact absurd hx.length (by simp)
    | a :: o :: r, hx, hf =>
      obtain ⟨hx1, hx2⟩ := hx.cons_inv
      obtain ⟨hu, hr⟩ := hx2.cons_inv
      cases a <;> try simp only [setM, reduceCtorEq] at hf
      rename_i k m
      cases k <;> try simp only [setM, reduceCtorEq] at hf
      have hkey : e.key = .int .i64 m := hx1
      by_cases hmn : m = n
      · rw [if_pos hmn] at hf
        cases hf
        subst hmn
        refine .inr ⟨0, e, by simp [Instr.findNow, Instr.sameNow, hkey], rfl, hkey, ?_⟩
        simp only [List.modify_zero_cons, List.flatMap_cons, fE_eq, List.cons_append, List.nil_append]
        exact ⟨_, _, rfl, rfl, _, _, rfl, hxu, hr⟩
      · rw [if_neg hmn] at hf
        obtain ⟨r', hr', rfl⟩ := Option.map_eq_some_iff.1 hf
        have hnm : (n == m) = false := by simp; omega
        rcases set_spec n hxu clock (i + 1) hr hr' with ⟨h1, h2⟩ | ⟨j, e', h1, h2, h3, h4⟩
        · refine .inl ⟨by simp only [Instr.findNow, Instr.sameNow, hkey, if_true, hnm]; exact h1, fun b => ?_⟩
          simp only [List.cons_append, List.flatMap_cons, fE_eq, List.nil_append]
          exact ⟨_, _, rfl, hx1, _, _, rfl, hu, h2 b⟩
        · refine .inr ⟨j + 1, e', by simp only [Instr.findNow, Instr.sameNow, hkey, if_true, hnm]; rw [h1]; congr 3; omega, by simpa using h2, h3, ?_⟩
          simp only [List.modify_succ_cons, List.flatMap_cons, fE_eq, List.cons_append, List.nil_append]
          exact ⟨_, _, rfl, hx1, _, _, rfl, hu, h4⟩

theorem s_mapSet (hS : SRel S H) (t : TypeId) {k e : TypeId} (ht : P.underlying t = some (.map k e)) (hk : P.underlying k = some (.int .i64))
    {m u v : Value} {xs : List AV} (hx : VsRel S xs [m, u, v]) (h : stepA P .mapSet H xs K) : OpOk P S ((do Instr.mapUpdate t m u v; pure Next.skip : Sem Next).run P S.w) K := by
  obtain ⟨a, b, c, rfl, ha, hb, hc⟩ := hx.len3
  cases a <;> cases b <;> simp only [stepA] at h <;> try exact h.elim
  rename_i g vn kk n
  obtain ⟨rfl, h1, h2, h3, hq⟩ := h
  obtain ⟨ys, hf, hK⟩ := optK_elim hq
  obtain rfl : u = .int .i64 n := hb
  obtain ⟨_, hg, _, hcc⟩ := ha
  have hG := hS.live_of hg
  obtain rfl : m = _ := hcc (by rw [hG.ver, h1])
  obtain ⟨⟨es, clock, hb, hv⟩, _⟩ := hG.mlive h2 h3
  have hgn : g < H.n := by rw [← hS.n]; exact hg
  have hck : ∀ (em : Bool), (Instr.checkKey em 10000 k (.int .i64 n)).run P S.w = .ok () S.w := fun em => MapKept.run_checkKey hk (isKey_int rfl n) em 9999
  have fin : ∀ (es' : Array MapEntry) (clock' : Nat), VsRel S ys (flatE es') → (Instr.mapUpdate t (.map (some (S.place g))) (.int .i64 n) v).run P S.w = .ok () { S.w with heap := S.w.heap.setIfInBounds (S.place g) (.map es' clock') } → OpOk P S ((do Instr.mapUpdate t (.map (some (S.place g))) (.int .i64 n) v; pure Next.skip : Sem Next).run P S.w) K := by
    intro es' clock' hv' hr
    obtain ⟨q1, q2⟩ := MapKept.heap_set (w := S.w) (o' := .map es' clock') hb
    obtain ⟨ev, hS'⟩ := hS.setM hgn h2 h3 { S.w with heap := S.w.heap.setIfInBounds (S.place g) (.map es' clock') } rfl rfl rfl (by simp) q2 q1 hv'
    rw [h1] at hS'
    exact .inl ⟨undef, _, .any, _, .inr ⟨by simp [hr], rfl⟩, ev, hS', trivial, hK⟩
  rcases set_spec n hc clock 0 hv hf with ⟨hfn, hy⟩ | ⟨j, en, hfn, hj, hkey, hy⟩
  · have hfk := MapKept.run_findKey (P := P) (w := S.w) hk hfn
    refine fin (es.push { key := .int .i64 n, val := v, born := clock }) (clock + 1) (by have := hy clock; rw [flatE_eq, Array.toList_push]; exact this) ?_
    simp [Instr.mapUpdate, run_underlying ht, MapKept.run_getObj_map hb, hck, hfk, MapKept.run_setObj_map _ hb]
  · have hfk := MapKept.run_findKey (P := P) (w := S.w) hk hfn
    have hjj : es[j]? = some en := by simpa using hj
    refine fin (es.modify j fun e => { e with key := .int .i64 n, val := v }) clock (by rw [flatE_eq, Array.toList_modify]; exact hy) ?_
    simp [Instr.mapUpdate, run_underlying ht, MapKept.run_getObj_map hb, hck, hfk, hjj, hkey, Instr.keyThatStays, Instr.sameBits, MapKept.run_setObj_map _ hb]
end
end Go.Proofs.Ytdmjhlofphhldaa.Abs
