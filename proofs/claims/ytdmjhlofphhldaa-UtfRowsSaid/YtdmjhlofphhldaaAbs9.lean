/-
  The operations of the model do what 'stepA' says: stores; append. And all of them together: 'step_sound'.
-/
import Derived.Test.YtdmjhlofphhldaaAbs8
set_option linter.unusedSimpArgs false
set_option linter.unusedVariables false
namespace Go.Proofs.Ytdmjhlofphhldaa.Abs
section
variable {P : Program} {S : MS} {H : AHeap} {ρ : Operand → Value} {K : AV → AHeap → Prop}

theorem agg_cells (a : Array Value) : (Value.agg a).cells = a := rfl

theorem setRow_evo (g : Nat) (cs : Array Value) (w : World) : (w.setRow g cs).os = w.os ∧ (w.setRow g cs).tape = w.tape ∧ (w.setRow g cs).output = w.output ∧ w.heap.size ≤ (w.setRow g cs).heap.size ∧ ∀ b {c : Nat}, 0 < c → ¬ (0 < c ∧ b = g) → b < w.heap.size → (w.setRow g cs).heap[b]? = w.heap[b]? :=
  ⟨rfl, rfl, rfl, by simp, fun b _ hc hb _ => setRow_other w g b cs (fun h => hb ⟨hc, h⟩)⟩

theorem moved_same {g : Nat} {w' : World} (hG : GRel S (H.at_ g) g) {x : AV} {v : Value} {ver : Nat} (hv : ver = (H.at_ g).ver) {wd : Nat} (hwd : wd = (H.at_ g).w) :
    S.moved w' g (S.place g) ver (S.cap g) wd = { S with w := w' } := by
  subst hv hwd
  have f : ∀ {α : Type} (f : Nat → α) (i : Nat), fput f i (f i) = f := fun f i => funext fun j => by unfold fput; split <;> simp_all
  unfold MS.moved
  rw [← hG.ver, ← hG.wid, f, f, f, f]

theorem s_store (hS : SRel S H) (t : TypeId) {a : Bool} {s : Nat} (ht : aggSize P t = some (a, s)) {ad v : Value} {xs : List AV} (hx : VsRel S xs [ad, v]) (h : stepA P (.store s) H xs K) :
    OpOk P S ((do Instr.storeAt t ad v; pure Next.skip : Sem Next).run P S.w) K := by
  obtain ⟨y, x, rfl, hy, hxv⟩ := hx.len2
  obtain ⟨i0, _, hi0, _, _, hsz, _, _⟩ := aggSize_spec ht
  cases y <;> simp only [stepA] at h <;> try exact h.elim
  rename_i g vn i o
  obtain ⟨h1, h2, h3, h4, h5, h6, h7, hK⟩ := h
  obtain ⟨_, hg, hc, hp⟩ := hy
  have hG := hS.live_of hg
  obtain rfl : ad = _ := hp (by rw [hG.ver, h1])
  have hl1 := hG.len (by omega)
  have hl2 := hG.full (by omega)
  have hcp : 0 < S.cap g := by omega
  obtain ⟨⟨cells, T, vs, hb, hcs, hvs, hf⟩, hl3⟩ := hG.live (by omega) hcp
  obtain ⟨u, hu, hru⟩ := hvs.get (List.getElem?_eq_getElem h2)
  obtain ⟨k1, k2⟩ := known_value hxv h6
  obtain ⟨f1, f2, f3⟩ := hf i u hu
  have hgn : g < H.n := by rw [← hS.n]; exact hg
  have hlv : (v.cells.toList).length = s := by simp; omega
  have hcap : (i + 1) * (H.at_ g).w ≤ cells.size := by rw [hcs]; exact Nat.mul_le_mul_right _ (by omega)
  have hcap' := hcap
  rw [Nat.add_mul, Nat.one_mul] at hcap'
  have exi : (H.at_ g).xs.getD i .any = (H.at_ g).xs[i] := by rw [List.getD, List.getElem?_eq_getElem h2]; rfl
  rw [exi] at h7 hK
  -- the element behind the store
  have hnew : ∃ u', VRel S (setPart (H.at_ g).w o s (H.at_ g).xs[i] x) u' ∧ u'.cells.size = (H.at_ g).w ∧ (∀ c ∈ u'.cells, c.oneCell' = true) ∧
      ∀ j, j < (H.at_ g).w → u'.cells[j]? = if o ≤ j ∧ j < o + v.cells.toList.length then v.cells.toList[j - o]? else u.cells[j]? := by
    by_cases hsw : s = (H.at_ g).w
    · refine ⟨v, by simp only [setPart, hsw, if_true]; exact hxv, by omega, k2, fun j hj => ?_⟩
      have ho : o = 0 := by omega
      subst ho
      rw [if_pos (by omega)]
      simp
    · obtain ⟨e1, e2⟩ := h7.resolve_left hsw
      have hec := hru.cells e1
      refine ⟨.agg (seg u.cells.toList o v.cells.toList).toArray, ?_, ?_, ?_, fun j hj => ?_⟩
      · simp only [setPart, hsw, if_false]
        refine ⟨_, rfl, ?_⟩
        have := ((hec.take o).append (hxv.cells (allOne_any h6))).append (hec.drop (o + s))
        simpa [seg, hlv] using this
      · simp only [agg_cells, List.size_toArray]
        rw [seg_length (by simp; omega)]
        simpa using f1
      · intro c hc'
        simp only [agg_cells, seg, List.mem_toArray, List.mem_append] at hc'
        rcases hc' with (hc' | hc') | hc'
        · exact f2 c (by simpa using List.mem_of_mem_take hc')
        · exact k2 c (by simpa using hc')
        · exact f2 c (by simpa using List.mem_of_mem_drop hc')
      · simp only [agg_cells, List.getElem?_toArray]
        rw [seg_get (by simp; omega)]
        by_cases hc' : o ≤ j ∧ j < o + v.cells.toList.length
        · rw [if_neg (by omega), if_pos (by omega), if_pos hc']
        · rw [if_neg hc']
          split
          · simp
          · rw [if_neg (by omega)]; simp
  obtain ⟨u', n1, n2, n3, n4⟩ := hnew
  have hfs := hf.seg hu (o := o) (l := v.cells.toList) (by omega) hcap n2 n3 n4
  have hst := run_storeCells_at P (S.place g) (i * (H.at_ g).w + o) T v.cells.toList 0 cells S.w hb (by simp; omega) (fun c hc' => k2 c (by simpa using hc'))
  obtain ⟨q1, q2, q3, q4, q5⟩ := setRow_evo (S.place g) (seg cells.toList (i * (H.at_ g).w + o) v.cells.toList).toArray S.w
  obtain ⟨e, hS'⟩ := hS.moved hgn (by omega) (S.w.setRow (S.place g) (seg cells.toList (i * (H.at_ g).w + o) v.cells.toList).toArray) (S.place g) (S.cap g)
    ⟨(H.at_ g).w, vn, (H.at_ g).exact, (H.at_ g).xs.set i (setPart (H.at_ g).w o s (H.at_ g).xs[i] x)⟩ q1 q2 q3 q4 (fun b => q5 b hcp) (.inl ⟨hcp, rfl⟩) (fun _ => ⟨_, T, _, setRow_heap S.w _ cells _ T _ hb,
    by rw [List.size_toArray, seg_length (by simp; omega)]; simpa using hcs, hvs.set n1, hfs⟩) (by simpa using hl1) (by simpa using hl2) (by show 0 < (H.at_ g).w; omega) (by rw [hG.ver, h1]; exact Nat.le_refl _) (fun _ => ⟨rfl, rfl, hG.wid.symm⟩)
  refine .inl ⟨undef, S.moved _ g (S.place g) vn (S.cap g) (H.at_ g).w, .any, _, .inr ⟨?_, rfl⟩, e, hS', trivial, hK⟩
  have hz : ¬ (v.cells.size ≠ i0.size) := by omega
  simp only [Nat.add_zero] at hst
  simp only [Instr.storeAt, Instr.sureAddr, storeVar, Sem.run_bind, Sem.run_pure, Result.andThen_ok, run_sizeOf' hi0, hz, if_false, hG.wid, hst]
  rfl

/-! ### append -/
theorem app_room {t u ty e : TypeId} {i : TypeInfo} (ht : P.underlying t = some (.slice e)) (hu : (∃ e', P.underlying u = some (.slice e')) ∨ P.underlying u = some .string) (hi : P.info? e = some i) {w : World}
    (base : Option Addr) (sLen sCap : Nat) (x : Value) (m : Nat) (news : List Value) (hm : (Builtin.lenOf x).run P w = .ok m w) (hf : (Builtin.firstCells i.size m x).run P w = .ok news.toArray w) (hroom : sLen + m ≤ sCap)
    (w' : World) (hst : match base with | some a => (storeCells (a.add (sLen * i.size)) news).run P w = .ok () w' | none => w' = w) :
    (Builtin.append_ #[t, u] ty #[.slice base sLen sCap, x]).run P w = .ok (.slice base (sLen + m) sCap) w' := by
  have hz : ∀ w', (underlying u).run P w' = .ok (match P.underlying u with | some d => d | none => .bool) w' := by
    intro w'; rcases hu with ⟨e', hu⟩ | hu <;> simp [run_underlying hu, hu]
  have hk : ∀ d, P.underlying u = some d → (match d with | TypeDesc.int _ => true | _ => false) = false := by
    intro d hd; rcases hu with ⟨e', hu⟩ | hu <;> rw [hu] at hd <;> cases hd <;> rfl
  rcases hu with ⟨e', hu⟩ | hu <;> cases base <;>
    simp [Builtin.append_, run_underlying ht, run_underlying hu, run_sizeOf' hi, hm, hroom, hf] <;> simp_all

theorem app_grow {t u ty e : TypeId} {i : TypeInfo} {z : Value} (ht : P.underlying t = some (.slice e)) (hu : (∃ e', P.underlying u = some (.slice e')) ∨ P.underlying u = some .string) (hi : P.info? e = some i) (hz : i.zero = some z) {w : World}
    (base : Option Addr) (sLen sCap : Nat) (olds : List Value) (hfo : (Builtin.firstCells i.size sLen (.slice base sLen sCap)).run P w.drew = .ok olds.toArray w.drew)
    (x : Value) (m : Nat) (news : List Value) (hm : (Builtin.lenOf x).run P w = .ok m w) (hf : (Builtin.firstCells i.size m x).run P w.drew = .ok news.toArray w.drew) (hroom : sCap < sLen + m)
    (hby : 0 < i.bytes) (hfit : (sLen + m) * i.bytes ≤ 140737488355328) :
    (Builtin.append_ #[t, u] ty #[.slice base sLen sCap, x]).run P w = .ok (.slice (some ⟨w.heap.size, 0, none⟩) (sLen + m) (grownCap w (sLen + m) sCap e))
      (w.drew.alloc (.cells (olds.toArray ++ news.toArray ++ Builtin.zeroCells z.cells (grownCap w (sLen + m) sCap e - (sLen + m))) e)) := by
  have hn : ¬ (sLen + m ≤ sCap) := by omega
  have hle : sLen + m ≤ (sLen + m) * i.bytes := Nat.le_mul_of_pos_right _ hby
  have h63 : ¬ (9223372036854775807 < ((sLen : Int) + (m : Int))) := by omega
  have hfits := growslice_fits hroom hfit
  have h48 : ¬ (281474976710656 < Builtin.nextslicecap (sLen + m) sCap * i.bytes) := by omega
  rcases hu with ⟨e', hu⟩ | hu
  all_goals
    simp [Builtin.append_, run_underlying ht, run_underlying hu, run_sizeOf' hi, typeInfo, zeroValue, hi, hz, hm, hn, h63, h48, Question.forced, hf, hfo, run_newRow', grownCap]
  all_goals
    congr 2
    apply Array.ext'
    simp [List.append_assoc]

theorem flat_append (a b : List Value) : flat (a ++ b) = flat a ++ flat b := by simp [flat]

/-- The elements of a slice, read one by one. -/
theorem news_read (hS : SRel S H) {w : Nat} (hw : 0 < w) {x : AV} {v : Value} (hx : VRel S x v) (hok : ElemsOk H w x) {es : List AV} (he : elemsOf H x = some es) :
    ∃ vs, VsRel S es vs ∧ (∀ u ∈ vs, u.cells.size = w ∧ ∀ c ∈ u.cells, c.oneCell' = true) ∧ (∀ W, (Builtin.lenOf v).run P W = .ok es.length W) ∧
      ∀ W, (∀ a, W.cell? a = S.w.cell? a) → (Builtin.firstCells w es.length v).run P W = .ok (flat vs).toArray W := by
  by_cases hstr : ∃ s, x = .str s
  · obtain ⟨s, rfl⟩ := hstr
    simp only [elemsOf, Option.some.injEq] at he
    subst he
    simp only [ElemsOk] at hok
    subst hok
    obtain rfl : v = .string ⟨s.toArray⟩ := hx
    have conv : ∀ s : List UInt8, VsRel S (s.map fun b => AV.int .u8 b.toNat) (s.map fun b => Value.int .u8 b.toNat) := by
      intro s
      induction s with
      | nil => rfl
      | cons b s ih => exact ⟨_, _, rfl, rfl, ih⟩
    refine ⟨s.map fun b => .int .u8 b.toNat, ?_, ?_, fun W => ?_, fun W _ => ?_⟩
    · exact conv s
    · intro u hu
      obtain ⟨b, _, rfl⟩ := List.mem_map.1 hu
      exact ⟨rfl, fun c hc => by simp [Value.cells] at hc; rw [hc]; rfl⟩
    · simp [Builtin.lenOf, bsize]
    · have e : (⟨s.toArray⟩ : ByteArray).extract 0 s.length = ⟨s.toArray⟩ := by
        have := ByteArray.extract_zero_size (b := ⟨s.toArray⟩)
        rwa [bsize] at this
      have f : flat (s.map fun b => Value.int .u8 b.toNat) = s.map fun b => Value.int .u8 b.toNat := by
        clear e
        induction s with
        | nil => rfl
        | cons b s ih => simpa [flat, Value.cells] using ih
      simp only [Builtin.firstCells, List.length_map, e, f, Sem.run_pure]
      simp
  · obtain ⟨a, cap, vs, rfl, hvs, hrow⟩ := elems_laid hS hw hx hok (fun s hs => hstr ⟨s, hs⟩) he
    by_cases hne : es = []
    · subst hne
      have : vs = [] := hvs
      subst this
      refine ⟨[], rfl, by simp, fun W => rfl, fun W _ => ?_⟩
      cases a <;> simp [Builtin.firstCells, loadCells, loadCellsFrom, flat]
    · obtain ⟨b, o, rfl, hr⟩ := hrow hne
      have hsz : ∀ u ∈ vs, u.cells.size = w ∧ ∀ c ∈ u.cells, c.oneCell' = true := fun u hu => by
        obtain ⟨i, hi⟩ := List.getElem?_of_mem hu
        exact ⟨(hr i u hi).1, (hr i u hi).2.1⟩
      refine ⟨vs, hvs, hsz, fun W => rfl, fun W hW => ?_⟩
      have hl : (flat vs).length = es.length * w := by rw [(flat_get (fun u hu => (hsz u hu).1)).1, hvs.length]
      exact run_firstCells_some W w es.length ⟨b, o, none⟩ es.length cap (flat vs) hl (fun j u hu => by rw [hW]; exact (hr.cell hw hu).1)

theorem flat_one {vs : List Value} {w : Nat} (h : ∀ u ∈ vs, u.cells.size = w ∧ ∀ c ∈ u.cells, c.oneCell' = true) : ∀ c ∈ flat vs, c.oneCell' = true := fun c hc => by
  obtain ⟨u, hu, hc'⟩ := List.mem_flatMap.1 hc
  exact (h u hu).2 c (by simpa using hc')

/-- A segment of whole elements of a row replaced. -/
theorem Fills.segs {cells : Array Value} {wd : Nat} (hwd : 0 < wd) {vs us : List Value} (h : Fills cells wd vs) (hu : ∀ u ∈ us, u.cells.size = wd ∧ ∀ c ∈ u.cells, c.oneCell' = true) {p : Nat} (hp : p ≤ vs.length) (hle : (p + us.length) * wd ≤ cells.size) :
    Fills (Abs.seg cells.toList (p * wd) (flat us)).toArray wd (Abs.seg vs p us) := by
  obtain ⟨l1, l2⟩ := flat_get (fun u hu' => (hu u hu').1)
  have hle' : p * wd + us.length * wd ≤ cells.size := by rw [← Nat.add_mul]; exact hle
  intro k v hv
  have hcl : cells.toList.length = cells.size := by simp
  have key : ∀ j, j < wd → (Abs.seg cells.toList (p * wd) (flat us)).toArray[k * wd + j]? = if k < p then cells[k * wd + j]? else if k < p + us.length then (flat us)[(k - p) * wd + j]? else cells[k * wd + j]? := by
    intro j hj
    rw [List.getElem?_toArray, seg_get (by rw [l1]; omega)]
    by_cases h1 : k < p
    · have : (k + 1) * wd ≤ p * wd := Nat.mul_le_mul_right _ h1
      rw [Nat.add_mul] at this
      rw [if_pos (by omega), if_pos h1]
      simp
    · have hpk : p * wd ≤ k * wd := Nat.mul_le_mul_right _ (by omega)
      rw [if_neg (by omega), if_neg h1]
      by_cases h2 : k < p + us.length
      · have : (k + 1) * wd ≤ (p + us.length) * wd := Nat.mul_le_mul_right _ h2
        rw [Nat.add_mul, Nat.add_mul] at this
        rw [if_pos (by rw [l1]; omega), if_pos h2]
        congr 1
        rw [Nat.sub_mul]
        omega
      · have : (p + us.length) * wd ≤ k * wd := Nat.mul_le_mul_right _ (by omega)
        rw [Nat.add_mul] at this
        rw [if_neg (by rw [l1]; omega), if_neg h2]
        simp
  unfold Abs.seg at hv
  have ht : (vs.take p).length = p := by simp; omega
  by_cases h1 : k < p
  · rw [List.append_assoc, List.getElem?_append_left (by omega), List.getElem?_take, if_pos h1] at hv
    obtain ⟨f1, f2, f3⟩ := h k v hv
    exact ⟨f1, f2, fun j hj => by rw [key j hj, if_pos h1]; exact f3 j hj⟩
  · by_cases h2 : k < p + us.length
    · rw [List.append_assoc, List.getElem?_append_right (by omega), ht, List.getElem?_append_left (by omega)] at hv
      obtain ⟨f1, f2⟩ := hu v (List.mem_of_getElem? hv)
      exact ⟨f1, f2, fun j hj => by rw [key j hj, if_neg h1, if_pos h2]; exact l2 _ _ hv j hj⟩
    · rw [List.getElem?_append_right (by simp; omega), List.getElem?_drop] at hv
      have e : p + us.length + (k - (vs.take p ++ us).length) = k := by simp; omega
      rw [e] at hv
      obtain ⟨f1, f2, f3⟩ := h k v hv
      exact ⟨f1, f2, fun j hj => by rw [key j hj, if_neg h1, if_neg h2]; exact f3 j hj⟩

theorem VsRel.seg {xs ys : List AV} {vs us : List Value} (h : VsRel S xs vs) (k : VsRel S ys us) (p : Nat) : VsRel S (Abs.seg xs p ys) (Abs.seg vs p us) := by
  unfold Abs.seg
  rw [k.length]
  exact ((h.take p).append k).append (h.drop _)

/-- A row that append made: all elements, and room. -/
theorem fills_grown {w : Nat} {vs : List Value} (h : ∀ u ∈ vs, u.cells.size = w ∧ ∀ c ∈ u.cells, c.oneCell' = true) {z : Value} (hz : z.cells.size = w) {cap : Nat} (hc : vs.length ≤ cap) :
    ((flat vs).toArray ++ Builtin.zeroCells z.cells (cap - vs.length)).size = cap * w ∧ Fills ((flat vs).toArray ++ Builtin.zeroCells z.cells (cap - vs.length)) w vs := by
  refine ⟨?_, fills_flat h _⟩
  rw [Array.size_append, size_zeroCells, hz, List.size_toArray, (flat_get (fun u hu => (h u hu).1)).1, ← Nat.add_mul]
  congr 1
  omega

/-- APPEND INTO A NEW BLOCK. -/
theorem app_new (hS : SRel S H) {t u ty e : TypeId} {i : TypeInfo} {z : Value} (ht : P.underlying t = some (.slice e)) (hu : (∃ e', P.underlying u = some (.slice e')) ∨ P.underlying u = some .string) (hi : P.info? e = some i) (hz : i.zero = some z) (hzs : z.cells.size = i.size)
    (h0 : 0 < i.size) (hby : 0 < i.bytes) (base : Option Addr) (sCap : Nat) {olds news : List AV} {vo vn : List Value} (ho : VsRel S olds vo) (ho1 : ∀ u ∈ vo, u.cells.size = i.size ∧ ∀ c ∈ u.cells, c.oneCell' = true)
    (hfo : (Builtin.firstCells i.size olds.length (.slice base olds.length sCap)).run P S.w.drew = .ok (flat vo).toArray S.w.drew)
    (x : Value) (hn : VsRel S news vn) (hn1 : ∀ u ∈ vn, u.cells.size = i.size ∧ ∀ c ∈ u.cells, c.oneCell' = true) (hm : (Builtin.lenOf x).run P S.w = .ok news.length S.w) (hf : (Builtin.firstCells i.size news.length x).run P S.w.drew = .ok (flat vn).toArray S.w.drew)
    (hroom : sCap < olds.length + news.length) (hfit : (olds.length + news.length) * i.bytes ≤ 140737488355328) :
    ∃ cells cap, (Builtin.append_ #[t, u] ty #[.slice base olds.length sCap, x]).run P S.w = .ok (.slice (some ⟨S.w.heap.size, 0, none⟩) (olds.length + news.length) cap) (S.w.drew.alloc (.cells cells e)) ∧
      olds.length + news.length ≤ cap ∧ cells.size = cap * i.size ∧ Fills cells i.size (vo ++ vn) := by
  have run := app_grow (ty := ty) ht hu hi hz base olds.length sCap (flat vo) hfo x news.length (flat vn) hm hf hroom hby hfit
  have hge := grownCap_ge S.w (olds.length + news.length) sCap e
  have hlen : (vo ++ vn).length = olds.length + news.length := by simp [ho.length, hn.length]
  have hg := fills_grown (w := i.size) (vs := vo ++ vn) (fun u hu => (List.mem_append.1 hu).elim (ho1 u) (hn1 u)) hzs (cap := grownCap S.w (olds.length + news.length) sCap e) (by omega)
  rw [hlen, flat_append] at hg
  have e1 : (flat vo).toArray ++ (flat vn).toArray = (flat vo ++ flat vn).toArray := by simp
  rw [e1] at run
  exact ⟨_, _, run, hge, hg.1, hg.2⟩

/-- .. which is a new group. -/
theorem new_group (hS : SRel S H) {r : Result Next} {w : Nat} {cells : Array Value} {e : TypeId} {es : List AV} {vs : List Value} {cap len : Nat} (hv : VsRel S es vs) (hf : Fills cells w vs) (hc : cells.size = cap * w) (hl : len = es.length) (hcap : len ≤ cap)
    (hr : r = .ok (.value (.slice (some ⟨S.w.heap.size, 0, none⟩) len cap)) (S.w.drew.alloc (.cells cells e))) (hK : K (.ref H.n 1 0 len) (H.push ⟨w, 1, false, es⟩)) (hw0 : 0 < w) : OpOk P S r K := by
  have hSd := hS.drew
  have e1 := Evo.drew S
  have g := hSd.grow cells e ⟨w, 1, false, es⟩ cap hc (vs := vs) (VsRel.mono e1 _ hv) hf (by show es.length ≤ cap; omega) (by simp) hw0
  exact ok_grow (S' := MS.grow { S with w := S.w.drew } (.cells cells e) 1 cap w) hr (e1.trans (Evo.grow hSd.im _ _ _ _)) g (grow_ref hSd _ _ _ _ _ hcap) hK

theorem set_same (g : Nat) : H.set g (H.at_ g) = H := by
  unfold AHeap.set hput
  congr
  funext j
  split
  · rename_i h; rw [h]
  · rfl

theorem drew_cell (w : World) (a : Addr) : w.drew.cell? a = w.cell? a := rfl

theorem s_app (hS : SRel S H) {t u ty e : TypeId} {i : TypeInfo} {z : Value} {zx : AV} (ht : P.underlying t = some (.slice e)) (hu : (∃ e', P.underlying u = some (.slice e')) ∨ P.underlying u = some .string) (hi : P.info? e = some i) (hz : i.zero = some z)
    (hzs : z.cells.size = i.size) (h0 : 0 < i.size) (hby : 0 < i.bytes) (cs : Array Bool) {sv xv : Value} {xs : List AV} (hx : VsRel S xs [sv, xv]) (h : stepA P (.app i.size i.bytes zx) H xs K) :
    OpOk P S ((builtin .append #[t, u] ty cs #[sv, xv]).run P S.w) K := by
  obtain ⟨s, x, rfl, hs, hxv⟩ := hx.len2
  simp only [stepA] at h
  obtain ⟨hok, hq⟩ := h
  obtain ⟨news, he, h⟩ := optK_elim hq
  clear hq
  obtain ⟨vn, hn, hn1, hlen, hrd⟩ := news_read hS h0 hxv hok he
  have hm := hlen S.w
  have hf := hrd S.w (fun _ => rfl)
  have hfd := hrd S.w.drew (fun _ => rfl)
  have wrap : ∀ {v w'}, (Builtin.append_ #[t, u] ty #[sv, xv]).run P S.w = .ok v w' → (builtin .append #[t, u] ty cs #[sv, xv]).run P S.w = .ok (.value v) w' := by
    intro v w' hr
    simp only [builtin, Sem.run_bind, hr, Result.andThen_ok, Sem.run_pure]
  -- a slice without room
  have empty : ∀ base, sv = .slice base 0 0 → K (.ref H.n 1 0 news.length) (H.push ⟨i.size, 1, news.isEmpty, news⟩) → news.length * i.bytes ≤ 140737488355328 → OpOk P S ((builtin .append #[t, u] ty cs #[sv, xv]).run P S.w) K := by
    intro base hb k1 hfit
    subst hb
    by_cases hne : news = []
    · subst hne
      have hvn : vn = [] := hn
      subst hvn
      refine .inl ⟨.slice base 0 0, S.virt i.size, .ref H.n 1 0 0, _, .inl (wrap ?_), Evo.virt _, hS.virt _ h0, ?_, k1⟩
      · exact app_room ht hu hi base 0 0 xv 0 [] hm hf (Nat.le_refl _) S.w (by cases base <;> simp [storeCells])
      · refine ⟨⟨_, _, rfl, fun _ => rfl⟩, ?_, ?_, fun _ => ⟨_, _, rfl, .inr ⟨rfl, rfl, ?_⟩⟩⟩
        · show H.n < S.n + 1; rw [hS.n]; omega
        · show 1 ≤ fput _ _ _ _; rw [← hS.n, fput_same]; exact Nat.le_refl _
        · show fput _ _ _ _ ≤ 0; rw [← hS.n, fput_same]; exact Nat.le_refl _
    · have hpos : 0 < news.length := by cases news with | nil => exact absurd rfl hne | cons _ _ => simp
      have hie : news.isEmpty = false := by cases news with | nil => exact absurd rfl hne | cons _ _ => rfl
      rw [hie] at k1
      obtain ⟨cells, cap, run, r1, r2, r3⟩ := app_new hS (ty := ty) ht hu hi hz hzs h0 hby base 0 (olds := []) (vo := []) rfl (by simp) (by cases base <;> simp [Builtin.firstCells, loadCells, loadCellsFrom, flat]) xv hn hn1 hm hfd (by simpa using hpos) (by simpa using hfit)
      simp only [List.length_nil, Nat.zero_add, List.nil_append] at run r1 r2 r3
      exact new_group hS hn r3 r2 rfl r1 (wrap run) k1 h0
  cases s <;> simp only [appendA] at h <;> try exact h.elim
  · exact empty none hs h.2 h.1
  · obtain ⟨a, ha⟩ := hs
    exact empty a ha h.2 h.1
  · rename_i w' xs
    obtain ⟨h1, hpos, h3, hK⟩ := h
    subst h1
    obtain ⟨_, _, a, vs, rfl, hnone, hvs, hrow⟩ := hs
    have husz : ∀ v ∈ vs, v.cells.size = i.size ∧ ∀ c ∈ v.cells, c.oneCell' = true := fun v hv => by
      obtain ⟨j, hj⟩ := List.getElem?_of_mem hv
      have hne : xs ≠ [] := fun hh => by subst hh; have : vs = [] := hvs; subst this; cases hv
      obtain ⟨b, o, _, _, hr⟩ := hrow hne
      obtain ⟨f1, f2, _⟩ := hr j v hj
      exact ⟨f1, f2⟩
    have hbase : (Builtin.firstCells i.size xs.length (.slice a xs.length xs.length)).run P S.w.drew = .ok (flat vs).toArray S.w.drew := by
      by_cases hne : xs = []
      · subst hne
        have : vs = [] := hvs
        subst this
        cases a <;> simp [Builtin.firstCells, loadCells, loadCellsFrom, flat]
      · obtain ⟨b, o, rfl, _, hr⟩ := hrow hne
        have hl : (flat vs).length = xs.length * i.size := by rw [(flat_get hr.sizes).1, hvs.length]
        exact run_firstCells_some S.w.drew i.size xs.length _ xs.length xs.length _ hl (fun j v hv => (hr.cell h0 hv).1)
    obtain ⟨cells', cap2, run, r1, r2, r3⟩ := app_new hS (ty := ty) ht hu hi hz hzs h0 hby a xs.length hvs husz hbase xv hn hn1 hm hfd (by omega) h3
    exact new_group hS (hvs.append hn) r3 r2 (by rw [List.length_append]) r1 (wrap run) hK h0
  · rename_i g vn' off len
    obtain ⟨h1, h2, h3, h4, h⟩ := h
    have hs' := hs
    obtain ⟨_, hg, hc, hp⟩ := hs
    have hG := hS.live_of hg
    have ec : S.cur g = vn' := by rw [hG.ver, h1]
    obtain ⟨a, cap', rfl, hcase⟩ := hp ec
    have hgn : g < H.n := by rw [← hS.n]; exact hg
    have hlw : 0 < (H.at_ g).w := by omega
    have hl1 := hG.len hlw
    have hl2 := hG.full hlw
    by_cases hc0 : S.cap g = 0
    · -- no room
      have hx0 : (H.at_ g).xs = [] := List.eq_nil_of_length_eq_zero (by omega)
      rw [hx0] at h h4
      simp only [List.isEmpty_nil, Bool.or_true, List.length_nil, List.nil_append] at h h4
      obtain ⟨h5, h6, hK⟩ := h
      have hl0 : len = 0 := by omega
      subst hl0
      subst h6
      have hcp : cap' = 0 := by rcases hcase with ⟨_, c2, _⟩ | ⟨_, c2, _⟩ <;> omega
      subst hcp
      simp only [Nat.zero_add] at hK h3
      by_cases hne : news = []
      · subst hne
        have hvn : vn = [] := hn
        subst hvn
        obtain ⟨e', hS'⟩ := hS.moved hgn hlw S.w (S.place g) 0 ⟨i.size, vn' + 1, (H.at_ g).exact && ([] : List AV).isEmpty, []⟩ rfl rfl rfl (Nat.le_refl _) (fun _ _ _ => rfl) (.inr (.inr rfl)) (fun h => absurd h (by omega)) (Nat.le_refl _) (fun _ => rfl) h0 (by rw [ec]; show _ ≤ vn' + 1; omega) (fun hh => by rw [ec] at hh; change vn' + 1 = vn' at hh; omega)
        refine ok_grow (S' := S.moved S.w g (S.place g) (vn' + 1) 0 i.size) (v := .slice a 0 0) (wrap (app_room ht hu hi a 0 0 xv 0 [] hm hf (Nat.le_refl _) S.w (by cases a <;> simp [storeCells]))) e' hS' ?_ hK
        refine ⟨⟨_, _, rfl, fun _ => rfl⟩, hg, ?_, fun _ => ⟨a, 0, rfl, .inr ⟨rfl, rfl, ?_⟩⟩⟩
        · show _ ≤ fput _ _ _ _; rw [fput_same]; exact Nat.le_refl _
        · show fput _ _ _ _ ≤ 0; rw [fput_same]; exact Nat.le_refl _
      · have hpos : 0 < news.length := by cases news with | nil => exact absurd rfl hne | cons _ _ => simp
        have hie : news.isEmpty = false := by cases news with | nil => exact absurd rfl hne | cons _ _ => rfl
        obtain ⟨cells', cap2, run, r1, r2, r3⟩ := app_new hS (ty := ty) ht hu hi hz hzs h0 hby a 0 (olds := []) (vo := []) rfl (by simp) (by cases a <;> simp [Builtin.firstCells, loadCells, loadCellsFrom, flat]) xv hn hn1 hm hfd (by simpa using hpos) (by simpa using h3)
        simp only [List.length_nil, Nat.zero_add, List.nil_append] at run r1 r2 r3
        have hw1 := heap_alloc_new S.w.drew (.cells cells' e)
        obtain ⟨e', hS'⟩ := hS.moved hgn hlw (S.w.drew.alloc (.cells cells' e)) S.w.heap.size cap2 ⟨i.size, vn' + 1, (H.at_ g).exact && news.isEmpty, news⟩ rfl rfl rfl (by rw [size_alloc]; show _ ≤ S.w.heap.size + 1; omega)
          (fun b _ hb' => heap_alloc_lt S.w.drew _ b hb') (.inr (.inl (Nat.le_refl _))) (fun _ => ⟨_, _, _, hw1, r2, hn, r3⟩) r1 (by simp [hie]) h0 (by rw [ec]; show _ ≤ vn' + 1; omega) (fun hh => by rw [ec] at hh; change vn' + 1 = vn' at hh; omega)
        refine ok_grow (S' := S.moved _ g S.w.heap.size (vn' + 1) cap2 i.size) (wrap run) e' hS' ?_ hK
        refine ⟨⟨_, _, rfl, fun h => by cases h⟩, hg, ?_, fun _ => ⟨_, cap2, rfl, .inl ?_⟩⟩
        · show _ ≤ fput _ _ _ _; rw [fput_same]; exact Nat.le_refl _
        · show _ = some (Addr.mk (fput _ _ _ _) (_ * fput _ _ _ _) none) ∧ _ = fput _ _ _ _ - _ ∧ _ ≤ fput _ _ _ _
          rw [fput_same, fput_same, fput_same]
          exact ⟨by simp, by omega, by omega⟩
    have hc1 : 0 < S.cap g := by omega
    obtain ⟨⟨cells, T, us, hb, hcs, hus, hfl⟩, hl3⟩ := hG.live hlw hc1
    rw [h2] at hcs hfl
    have husl : us.length = (H.at_ g).xs.length := hus.length
    -- what stands in the slice
    have holds : ∀ W, (∀ a, W.cell? a = S.w.cell? a) → (Builtin.firstCells i.size len (.slice a len cap')).run P W = .ok (flat ((us.drop off).take len)).toArray W := by
      intro W hW
      rcases hcase with ⟨rfl, _, _⟩ | ⟨hl0, _, _⟩
      · have hrow : RowAt S.w (S.place g) (off * i.size) i.size ((us.drop off).take len) := by
          intro j v hv
          rw [List.getElem?_take] at hv
          split at hv
          · rw [List.getElem?_drop] at hv
            have := hfl.row hb (off + j) v hv
            rwa [Nat.zero_add, Nat.add_mul] at this
          · cases hv
        have hl : (flat ((us.drop off).take len)).length = len * i.size := by
          rw [(flat_get hrow.sizes).1]; simp; rw [Nat.min_eq_left (by omega)]
        rw [hG.wid, h2]
        exact run_firstCells_some W i.size len _ len cap' _ hl (fun j v hv => by rw [hW]; exact (hrow.cell h0 hv).1)
      · subst hl0
        cases a <;> simp [Builtin.firstCells, loadCells, loadCellsFrom, flat]
    have husz : ∀ v ∈ (us.drop off).take len, v.cells.size = i.size ∧ ∀ c ∈ v.cells, c.oneCell' = true := fun v hv => by
      obtain ⟨j, hj⟩ := List.getElem?_of_mem (List.mem_of_mem_drop (List.mem_of_mem_take hv))
      obtain ⟨f1, f2, _⟩ := hfl j v hj
      exact ⟨f1, f2⟩
    have holdA : VsRel S (((H.at_ g).xs.drop off).take len) ((us.drop off).take len) := (hus.drop off).take len
    have holdl : (((H.at_ g).xs.drop off).take len).length = len := by simp; omega
    cases hxx : (!(H.at_ g).exact || (H.at_ g).xs.isEmpty) <;> simp only [hxx] at h
    rotate_left
    · -- room isn't known
      have hex : (H.at_ g).exact = false := by
        cases hex : (H.at_ g).exact
        · rfl
        · rw [hex] at hxx
          have h7 := hl2 hex
          have : (H.at_ g).xs = [] := by simpa using hxx
          rw [this] at h7
          simp at h7
          omega
      rw [hex, Bool.false_and] at h
      obtain ⟨h5, h6, hK⟩ := h
      subst h6
      simp only [Nat.zero_add] at h5
      have hall : (us.drop 0).take len = us := by rw [List.drop_zero]; exact List.take_of_length_le (by omega)
      have hallA : ((H.at_ g).xs.drop 0).take len = (H.at_ g).xs := by rw [List.drop_zero]; exact List.take_of_length_le (by omega)
      rw [hall] at holds husz
      by_cases hroom : len + news.length ≤ cap'
      · -- in its block
        by_cases hz0 : news = []
        · subst hz0
          have hvn0 : vn = [] := hn
          subst hvn0
          obtain ⟨e', hS'⟩ := hS.moved hgn hlw S.w (S.place g) (S.cap g) ⟨i.size, vn' + 1, false, (H.at_ g).xs ++ []⟩ rfl rfl rfl (Nat.le_refl _) (fun _ _ _ => rfl) (.inl ⟨hc1, rfl⟩) (fun _ => ⟨_, _, us, hb, hcs, by simpa using hus, hfl⟩) (by simpa using hl1) (by simp) h0 (by rw [ec]; show _ ≤ vn' + 1; omega) (fun hh => by rw [ec] at hh; change vn' + 1 = vn' at hh; omega)
          refine ok_grow (S' := S.moved S.w g (S.place g) (vn' + 1) (S.cap g) i.size) (v := .slice a (len + 0) cap') (wrap (app_room ht hu hi a len cap' xv 0 [] hm hf hroom S.w (by cases a <;> simp [storeCells]))) e' hS' ?_ hK
          refine ⟨⟨_, _, rfl, fun hh => ?_⟩, hg, ?_, fun _ => ⟨a, cap', rfl, ?_⟩⟩
          · rcases hcase with ⟨c1, _⟩ | ⟨c1, _⟩
            · rw [c1] at hh; cases hh
            · omega
          · show _ ≤ fput _ _ _ _; rw [fput_same]; exact Nat.le_refl _
          · show (a = some ⟨fput _ _ _ _, _ * fput _ _ _ _, none⟩ ∧ _ = fput _ _ _ _ - _ ∧ _ ≤ fput _ _ _ _) ∨ (_ ∧ _ ∧ fput _ _ _ _ ≤ _)
            rw [fput_same, fput_same, fput_same]
            rcases hcase with ⟨c1, c2, c3⟩ | ⟨c1, c2, c3⟩
            · exact .inl ⟨by rw [c1, hG.wid, h2], c2, by simpa using c3⟩
            · exact .inr ⟨by simpa using c1, c2, c3⟩
        · have hpos : 0 < news.length := by cases news with | nil => exact absurd rfl hz0 | cons _ _ => simp
          obtain ⟨c1, c2, c3⟩ : a = some ⟨S.place g, 0 * S.wid g, none⟩ ∧ cap' = S.cap g - 0 ∧ 0 + len ≤ S.cap g := by
            rcases hcase with hc' | ⟨c1, c2, c3⟩
            · exact hc'
            · omega
          subst c1
          have hvl : vn.length = news.length := hn.length
          have hle : (len + vn.length) * i.size ≤ cells.size := by rw [hcs]; exact Nat.mul_le_mul_right _ (by omega)
          have fl := (flat_get (fun v hv => (hn1 v hv).1)).1
          have hst := run_storeCells_at P (S.place g) (len * i.size) T (flat vn) 0 cells S.w hb (by rw [fl]; rw [Nat.add_mul] at hle; omega) (flat_one hn1)
          simp only [Nat.add_zero] at hst
          obtain ⟨q1, q2, q3, q4, q5⟩ := setRow_evo (S.place g) (Abs.seg cells.toList (len * i.size) (flat vn)).toArray S.w
          have hfs := hfl.segs h0 hn1 (p := len) (by omega) hle
          have hsegA : Abs.seg (H.at_ g).xs len news = (H.at_ g).xs ++ news := by
            unfold Abs.seg
            rw [List.take_of_length_le (by omega), List.drop_eq_nil_of_le (by omega), List.append_nil]
          have hvs : VsRel S ((H.at_ g).xs ++ news) (Abs.seg us len vn) := by rw [← hsegA]; exact hus.seg hn len
          obtain ⟨e', hS'⟩ := hS.moved hgn hlw (S.w.setRow (S.place g) (Abs.seg cells.toList (len * i.size) (flat vn)).toArray) (S.place g) (S.cap g) ⟨i.size, vn' + 1, false, (H.at_ g).xs ++ news⟩ q1 q2 q3 q4 (fun b => q5 b hc1) (.inl ⟨hc1, rfl⟩) (fun _ => ⟨_, T, _, setRow_heap S.w _ cells _ T _ hb,
            by rw [List.size_toArray, seg_length (by rw [fl]; simp; rw [Nat.add_mul] at hle; omega)]; simpa using hcs, hvs, hfs⟩) (by simp; omega) (by simp) h0 (by rw [ec]; show _ ≤ vn' + 1; omega) (fun hh => by rw [ec] at hh; change vn' + 1 = vn' at hh; omega)
          refine ok_grow (S' := S.moved _ g (S.place g) (vn' + 1) (S.cap g) i.size) (v := .slice (some ⟨S.place g, 0 * S.wid g, none⟩) (len + news.length) cap') (wrap (app_room ht hu hi (some ⟨S.place g, 0 * S.wid g, none⟩) len cap' xv news.length (flat vn) hm hf hroom _ ?_)) e' hS' ?_ hK
          · show (storeCells ((Addr.mk (S.place g) (0 * S.wid g) none).add (len * i.size)) (flat vn)).run P S.w = _
            rw [addr_add]
            simp only [Nat.zero_mul, Nat.zero_add]
            exact hst
          · refine ⟨⟨_, _, rfl, fun h => by cases h⟩, hg, ?_, fun _ => ⟨_, cap', rfl, .inl ?_⟩⟩
            · show _ ≤ fput _ _ _ _; rw [fput_same]; exact Nat.le_refl _
            · show _ = some (Addr.mk (fput _ _ _ _) (_ * fput _ _ _ _) none) ∧ _ = fput _ _ _ _ - _ ∧ _ ≤ fput _ _ _ _
              rw [fput_same, fput_same, fput_same]
              exact ⟨by simp, c2, by omega⟩
      · -- in a new block
        obtain ⟨cells', cap2, run, r1, r2, r3⟩ := app_new hS (ty := ty) ht hu hi hz hzs h0 hby a cap' (olds := (H.at_ g).xs) (vo := us) hus husz (by rw [← h5]; exact holds S.w.drew (fun _ => rfl)) xv hn hn1 hm hfd (by omega) (by rw [← h5]; exact h3)
        rw [← h5] at run r1
        have hw1 := heap_alloc_new S.w.drew (.cells cells' e)
        obtain ⟨e', hS'⟩ := hS.moved hgn hlw (S.w.drew.alloc (.cells cells' e)) S.w.heap.size cap2 ⟨i.size, vn' + 1, false, (H.at_ g).xs ++ news⟩ rfl rfl rfl (by rw [size_alloc]; show _ ≤ S.w.heap.size + 1; omega)
          (fun b _ hb' => heap_alloc_lt S.w.drew _ b hb') (.inr (.inl (Nat.le_refl _))) (fun _ => ⟨_, _, _, hw1, r2, hus.append hn, r3⟩) (by simp; omega) (by simp) h0 (by rw [ec]; show _ ≤ vn' + 1; omega) (fun hh => by rw [ec] at hh; change vn' + 1 = vn' at hh; omega)
        refine ok_grow (S' := S.moved _ g S.w.heap.size (vn' + 1) cap2 i.size) (wrap run) e' hS' ?_ hK
        refine ⟨⟨_, _, rfl, fun h => by cases h⟩, hg, ?_, fun _ => ⟨_, cap2, rfl, .inl ?_⟩⟩
        · show _ ≤ fput _ _ _ _; rw [fput_same]; exact Nat.le_refl _
        · show _ = some (Addr.mk (fput _ _ _ _) (_ * fput _ _ _ _) none) ∧ _ = fput _ _ _ _ - _ ∧ _ ≤ fput _ _ _ _
          rw [fput_same, fput_same, fput_same]
          exact ⟨by simp, by omega, by omega⟩
    · -- the room is known
      have hex : (H.at_ g).exact = true := by
        cases hex : (H.at_ g).exact
        · rw [hex] at hxx; simp at hxx
        · rfl
      obtain ⟨hA, hB⟩ := h
      have hcap := hl2 hex
      by_cases hroom : off + len + news.length ≤ (H.at_ g).xs.length
      · have hK := hA hroom
        have hcl : len + news.length ≤ cap' := by
          rcases hcase with ⟨_, c2, _⟩ | ⟨c1, c2, c3⟩ <;> omega
        by_cases hz0 : news = []
        · subst hz0
          have hvn0 : vn = [] := hn
          subst hvn0
          have hsame : (⟨i.size, vn', true, (H.at_ g).xs.take (off + len) ++ [] ++ (H.at_ g).xs.drop (off + len + ([] : List AV).length)⟩ : Grp) = H.at_ g := by
            rw [← h1, ← h2, ← hex]
            simp
          rw [hsame, set_same] at hK
          exact ok_value (v := .slice a len cap') (x := .ref g vn' off len) (wrap (app_room ht hu hi a len cap' xv 0 [] hm hf hcl S.w (by cases a <;> simp [storeCells]))) hS hs' hK
        · have hpos : 0 < news.length := by cases news with | nil => exact absurd rfl hz0 | cons _ _ => simp
          obtain ⟨c1, c2, c3⟩ : a = some ⟨S.place g, off * S.wid g, none⟩ ∧ cap' = S.cap g - off ∧ off + len ≤ S.cap g := by
            rcases hcase with hc' | ⟨c1, c2, c3⟩
            · exact hc'
            · omega
          subst c1
          have hvl : vn.length = news.length := hn.length
          have hle : (off + len + vn.length) * i.size ≤ cells.size := by rw [hcs]; exact Nat.mul_le_mul_right _ (by omega)
          have fl := (flat_get (fun v hv => (hn1 v hv).1)).1
          have hst := run_storeCells_at P (S.place g) ((off + len) * i.size) T (flat vn) 0 cells S.w hb (by rw [fl]; rw [Nat.add_mul] at hle; omega) (flat_one hn1)
          simp only [Nat.add_zero] at hst
          obtain ⟨q1, q2, q3, q4, q5⟩ := setRow_evo (S.place g) (Abs.seg cells.toList ((off + len) * i.size) (flat vn)).toArray S.w
          have hfs := hfl.segs h0 hn1 (p := off + len) (by omega) hle
          have hsl : (Abs.seg (H.at_ g).xs (off + len) news).length = (H.at_ g).xs.length := seg_length (by omega)
          obtain ⟨e', hS'⟩ := hS.moved hgn hlw (S.w.setRow (S.place g) (Abs.seg cells.toList ((off + len) * i.size) (flat vn)).toArray) (S.place g) (S.cap g) ⟨i.size, vn', true, Abs.seg (H.at_ g).xs (off + len) news⟩ q1 q2 q3 q4 (fun b => q5 b hc1) (.inl ⟨hc1, rfl⟩) (fun _ => ⟨_, T, _, setRow_heap S.w _ cells _ T _ hb,
            by rw [List.size_toArray, seg_length (by rw [fl]; simp; rw [Nat.add_mul] at hle; omega)]; simpa using hcs, hus.seg hn (off + len), hfs⟩) (by rw [hsl]; exact hl1) (fun _ => by rw [hsl]; exact hcap) h0 (by rw [ec]; exact Nat.le_refl _) (fun _ => ⟨rfl, rfl, by rw [hG.wid, h2]⟩)
          refine ok_grow (S' := S.moved _ g (S.place g) vn' (S.cap g) i.size) (v := .slice (some ⟨S.place g, off * S.wid g, none⟩) (len + news.length) cap') (wrap (app_room ht hu hi (some ⟨S.place g, off * S.wid g, none⟩) len cap' xv news.length (flat vn) hm hf hcl _ ?_)) e' hS' ?_ hK
          · show (storeCells ((Addr.mk (S.place g) (off * S.wid g) none).add (len * i.size)) (flat vn)).run P S.w = _
            rw [addr_add, hG.wid, h2, ← Nat.add_mul]
            exact hst
          · refine ⟨⟨_, _, rfl, fun h => by cases h⟩, hg, ?_, fun _ => ⟨_, cap', rfl, .inl ?_⟩⟩
            · show _ ≤ fput _ _ _ _; rw [fput_same]; exact Nat.le_refl _
            · show _ = some (Addr.mk (fput _ _ _ _) (_ * fput _ _ _ _) none) ∧ _ = fput _ _ _ _ - _ ∧ _ ≤ fput _ _ _ _
              rw [fput_same, fput_same, fput_same, hG.wid, h2]
              exact ⟨rfl, c2, by omega⟩
      · have hK := hB (by omega)
        have hcl : cap' < len + news.length := by
          rcases hcase with ⟨_, c2, _⟩ | ⟨c1, c2, c3⟩ <;> omega
        have hfo := holds S.w.drew (fun _ => rfl)
        have hbase : (Builtin.firstCells i.size (((H.at_ g).xs.drop off).take len).length (.slice a (((H.at_ g).xs.drop off).take len).length cap')).run P S.w.drew = .ok (flat ((us.drop off).take len)).toArray S.w.drew := by rw [holdl]; exact hfo
        obtain ⟨cells', cap2, run, r1, r2, r3⟩ := app_new hS (ty := ty) ht hu hi hz hzs h0 hby a cap' holdA husz hbase xv hn hn1 hm hfd (by omega) (by rw [holdl]; exact h3)
        rw [holdl] at run r1
        exact new_group hS (holdA.append hn) r3 r2 (by rw [List.length_append, holdl]) r1 (wrap run) hK h0

end
end Go.Proofs.Ytdmjhlofphhldaa.Abs
