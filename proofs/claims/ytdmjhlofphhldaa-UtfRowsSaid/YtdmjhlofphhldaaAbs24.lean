/-
  What comes in is data: numbers, Bools, texts, slices and records of them, however deep.
-/
import Derived.Test.YtdmjhlofphhldaaAbs23
import Derived.Deep.Slices
import Derived.OpenShut
import Derived.Carry
import Derived.WideShapes
set_option linter.unusedSimpArgs false
set_option linter.unusedVariables false
namespace Go.Proofs.Ytdmjhlofphhldaa.Abs
open Go.RowKit

/-- The shape of a cell: 'sl agg fs': a slice, of records of these cells (agg), or of such cells. -/
inductive Sh where
  | bool
  | int (k : IntKind)
  | str
  | sl (agg : Bool) (fs : List Sh)

mutual
def Is : Sh → AV → Prop
  | .bool, x => ∃ b, x = .bool b
  | .int k, x => ∃ n, x = .int k n ∧ (Lit.int k n).wf = true
  | .str, x => ∃ s : List UInt8, x = .str s ∧ s.length ≤ maxLen
  | .sl agg fs, x => x = .nilS ∨ ∃ xs, x = .lst fs.length xs ∧ xs.length ≤ maxLen ∧ ∀ y ∈ xs, ∃ cs, y = (if agg then .agg cs else cs.headD .any) ∧ IsL fs cs
def IsL : List Sh → List AV → Prop
  | [], cs => cs = []
  | s :: fs, cs => ∃ c r, cs = c :: r ∧ Is s c ∧ IsL fs r
end
theorem IsL_len : ∀ {fs : List Sh} {cs : List AV}, IsL fs cs → cs.length = fs.length
  | [], _, h => by rw [show _ = [] from h]; rfl
  | _ :: _, _, ⟨_, _, h, _, k⟩ => by rw [h]; simp [IsL_len k]

mutual
def fitsC (P : Program) : Sh → TypeId → Bool
  | .bool, t => match P.underlying t with | some .bool => true | _ => false
  | .int k, t => match P.underlying t with | some (.int k') => k' == k | _ => false
  | .str, t => match P.underlying t with | some .string => true | _ => false
  | .sl agg fs, t => match P.underlying t with
    | some (.slice e) => P.cellsOf e == fs.length && !fs.isEmpty && (match agg, P.underlying e with
      | true, some (.struct fl) => fitsF P fs 0 fl.toList
      | true, some (.array n u) => fs.length == n && P.cellsOf u == 1 && fitsA P fs u
      | false, _ => fs.length == 1 && fitsA P fs e
      | _, _ => false)
    | _ => false
def fitsF (P : Program) : List Sh → Nat → List Field → Bool
  | [], _, [] => true
  | s :: ss, i, f :: fl => f.offset == i && P.cellsOf f.type == 1 && fitsC P s f.type && fitsF P ss (i + 1) fl
  | _, _, _ => false
def fitsA (P : Program) : List Sh → TypeId → Bool
  | [], _ => true
  | s :: ss, u => fitsC P s u && fitsA P ss u
end

section
variable {H : Type} {enc : TypeId × Value → H} {P : Program} {w : World} {base : Nat} {spare : Nat → Bool} {held : Bool}

/-- What is known of a cell. -/
def Got (w : World) (s : Sh) (v : Value) : Prop := ∃ x, Is s x ∧ VRel (MS.start w) x v ∧ x.pure = true ∧ x.one = true
def GotL (w : World) (fs : List Sh) (vs : List Value) : Prop := ∃ xs, IsL fs xs ∧ VsRel (MS.start w) xs vs ∧ pureL xs = true ∧ allOne xs = true
theorem gotL_nil : GotL w [] [] := ⟨[], rfl, rfl, rfl, rfl⟩
theorem gotL_cons {s : Sh} {fs : List Sh} {v : Value} {vs : List Value} (h : Got w s v) (k : GotL w fs vs) : GotL w (s :: fs) (v :: vs) := by
  obtain ⟨x, h1, h2, h3, h4⟩ := h
  obtain ⟨xs, k1, k2, k3, k4⟩ := k
  exact ⟨x :: xs, ⟨x, xs, rfl, h1, k1⟩, ⟨v, vs, rfl, h2, k2⟩, by simp [pureL, h3, k3], by simp [allOne, h4, k4]⟩

theorem start_block {a : Addr} {v : Value} (h : w.cell? a = some v) : (MS.start w).im a.block := cell_block h

/-- A row of elements, each of which is known. -/
theorem row_got {agg : Bool} {fs : List Sh} {a : Addr} {len cap sz : Nat} (hsz : sz = fs.length) (hpos : 0 < fs.length) (hagg : agg = false → fs.length = 1) (hlc : len ≤ cap) (hcap : cap ≤ maxLen)
    (h : ∀ i, i < len → ∃ cs', w.cells? base (a.add (i * sz)) sz = some cs' ∧ GotL w fs cs') : Got w (.sl agg fs) (.slice (some a) len cap) := by
  subst hsz
  have h' : ∀ i : Nat, ∃ p : List AV × List Value, i < len → (w.cells? base (a.add (i * fs.length)) fs.length = some p.2 ∧ IsL fs p.1 ∧ VsRel (MS.start w) p.1 p.2 ∧ pureL p.1 = true ∧ allOne p.1 = true) := by
    intro i
    by_cases hi : i < len
    · obtain ⟨cs', h1, xs, h2, h3, h4, h5⟩ := h i hi
      exact ⟨(xs, cs'), fun _ => ⟨h1, h2, h3, h4, h5⟩⟩
    · exact ⟨([], []), fun h => absurd h hi⟩
  obtain ⟨p, hp⟩ := Classical.axiomOfChoice h'
  let E : List AV → AV := fun cs => if agg then .agg cs else cs.headD .any
  let V : List Value → Value := fun cs => if agg then .agg cs.toArray else cs.headD undef
  let xs : List AV := (List.range len).map fun i => E (p i).1
  let vs : List Value := (List.range len).map fun i => V (p i).2
  have hone : ∀ i, i < len → (V (p i).2).cells.toList = (p i).2 ∧ VRel (MS.start w) (E (p i).1) (V (p i).2) ∧ (E (p i).1).pure = true := by
    intro i hi
    obtain ⟨q1, q2, q3, q4, q5⟩ := hp i hi
    have hl1 : (p i).1.length = fs.length := IsL_len q2
    cases agg with
    | true => exact ⟨by simp [V, Value.cells], ⟨_, rfl, q3⟩, by simp [E, AV.pure, q4]⟩
    | false =>
      have h1 := hagg rfl
      rw [h1] at hl1
      match hc : (p i).1, (p i).2, q3, q4, q5, hl1 with
      | [c], [v], ⟨v', r, hv, hr, hr2⟩, q4, q5, _ =>
        cases hv
        have hno : c.one = true := by simpa [allOne] using q5
        have hcc : c.cells = [c] := by cases c <;> first | rfl | (simp [AV.one] at hno)
        have hca : c.isAny = false := by cases c <;> first | rfl | (simp [AV.one] at hno)
        have hcl := VRel.cells hca hr
        rw [hcc] at hcl
        obtain ⟨u, r2, hu, hu2, hu3⟩ := hcl
        rw [show r2 = [] from hu3] at hu
        have hv1 : v.cells.toList = [v] := by
          have := one_cell hr hno
          cases v <;> first | rfl | (simp [Value.oneCell'] at this)
        exact ⟨by simpa [V] using hv1, by simpa [E, V] using hr, by simpa [E, pureL] using q4⟩
  have hxl : xs.length = len := by simp [xs]
  have hvl : vs.length = len := by simp [vs]
  have hxi : ∀ i, i < len → xs[i]? = some (E (p i).1) := fun i hi => by simp [xs, hi]
  have hvi : ∀ i, i < len → vs[i]? = some (V (p i).2) := fun i hi => by simp [vs, hi]
  have hvs : VsRel (MS.start w) xs vs := VsRel.of_get (by rw [hxl, hvl]) fun i x v hx hv => by
    have hi : i < len := by rw [← hxl]; exact (List.getElem?_eq_some_iff.1 hx).1
    rw [hxi i hi] at hx
    rw [hvi i hi] at hv
    cases hx; cases hv
    exact (hone i hi).2.1
  have hpu : pureL xs = true := pureL_mem.2 fun x hx => by
    obtain ⟨i, hi, rfl⟩ := List.mem_map.1 hx
    exact (hone i (List.mem_range.1 hi)).2.2
  refine ⟨.lst fs.length xs, .inr ⟨xs, rfl, by rw [hxl]; omega, fun y hy => ?_⟩, ⟨hpu, hpos, some a, cap, vs, by rw [hxl], ⟨by rw [hxl]; exact hlc, fun hn => by cases hn⟩, hvs, fun hne => ?_⟩, by simpa [AV.pure] using hpu, rfl⟩
  · obtain ⟨i, hi, rfl⟩ := List.mem_map.1 hy
    exact ⟨_, rfl, (hp i (List.mem_range.1 hi)).2.1⟩
  · have h0 : 0 < len := by rw [← hxl]; exact List.length_pos_iff.2 hne
    obtain ⟨b, o, spot⟩ := a
    have hcell : ∀ i, i < len → ∀ j, j < fs.length → w.cell? ((⟨b, o, spot⟩ : Addr).add (i * fs.length + j)) = (p i).2[j]? := fun i hi j hj => by
      obtain ⟨_, _, hat⟩ := World.cells?_some (hp i hi).1
      rw [← hat j hj, ← Go.Deep.add_add]
    have hlen2 : ∀ i, i < len → (p i).2.length = fs.length := fun i hi => (World.cells?_some (hp i hi).1).2.1
    have hc0 := hcell 0 h0 0 hpos
    rw [List.getElem?_eq_getElem (by rw [hlen2 0 h0]; exact hpos)] at hc0
    have hspot : spot = none := by simpa [Addr.add] using World.cell?_spot hc0
    subst hspot
    have hbk : ∀ k : Nat, ((⟨b, o, none⟩ : Addr).add k).block = b := fun k => by unfold Addr.add; split <;> rfl
    refine ⟨b, o, rfl, by have := start_block hc0; rwa [hbk] at this, fun i v hv => ?_⟩
    have hi : i < len := by rw [← hvl]; exact (List.getElem?_eq_some_iff.1 hv).1
    rw [hvi i hi] at hv
    cases hv
    obtain ⟨e1, _, _⟩ := hone i hi
    have e1' : (V (p i).2).cells = (p i).2.toArray := by simpa using congrArg List.toArray e1
    obtain ⟨_, q2, q3, _, q5⟩ := hp i hi
    refine ⟨by rw [e1']; simp [hlen2 i hi], fun c hc => ?_, fun j hj => ?_⟩
    · rw [e1'] at hc
      exact one_cells q3 q5 c (by simpa using hc)
    · rw [e1']
      have := hcell i hi j hj
      have ea : (⟨b, o, none⟩ : Addr).add (i * fs.length + j) = ⟨b, o + i * fs.length + j, none⟩ := by
        unfold Addr.add
        split
        · rename_i hz
          have : i * fs.length = 0 ∧ j = 0 := by simpa using hz
          rw [this.1, this.2]
          rfl
        · simp [Nat.add_assoc]
      rw [ea] at this
      refine this.trans ?_
      simp

theorem fitsF_len : ∀ {fs : List Sh} {i : Nat} {fl : List Field}, fitsF P fs i fl = true → fl.length = fs.length
  | [], _, [], _ => rfl
  | [], _, _ :: _, h => by simp [fitsF] at h
  | _ :: _, _, [], h => by simp [fitsF] at h
  | s :: fs, i, f :: fl, h => by
    simp only [fitsF, Bool.and_eq_true] at h
    simp [fitsF_len h.2]
mutual
theorem trodC : ∀ (s : Sh) {t : TypeId} {fuel : Nat} {v : Value} {d : DataW H × List MemPlace}, fitsC P s t = true → DataW.trod enc P w base spare held fuel t [v] = some d → Got w s v
  | .bool, t, fuel, v, d, hf, h => by
    cases fuel with
    | zero => simp [DataW.trod] at h
    | succ n =>
      simp only [fitsC] at hf
      split at hf
      · rename_i ht
        unfold DataW.trod at h
        rw [ht] at h
        cases v <;> simp at h
        rename_i b
        exact ⟨.bool b, ⟨b, rfl⟩, rfl, rfl, rfl⟩
      · cases hf
  | .int k, t, fuel, v, d, hf, h => by
    cases fuel with
    | zero => simp [DataW.trod] at h
    | succ n =>
      simp only [fitsC] at hf
      split at hf
      · rename_i k' ht
        obtain rfl : k' = k := by simpa using hf
        unfold DataW.trod at h
        rw [ht] at h
        cases v <;> simp at h
        rename_i k2 m
        obtain ⟨⟨rfl, hw⟩, _⟩ := h
        exact ⟨.int k2 m, ⟨m, rfl, hw⟩, rfl, rfl, rfl⟩
      · cases hf
  | .str, t, fuel, v, d, hf, h => by
    cases fuel with
    | zero => simp [DataW.trod] at h
    | succ n =>
      simp only [fitsC] at hf
      split at hf
      · rename_i ht
        unfold DataW.trod at h
        rw [ht] at h
        cases v <;> simp at h
        rename_i s
        exact ⟨.str s.data.toList, ⟨_, rfl, by simpa using h.1⟩, rfl, rfl, rfl⟩
      · cases hf
  | .sl agg fs, t, fuel, v, d, hf, h => by
    simp only [fitsC] at hf
    split at hf
    · rename_i e ht
      simp only [Bool.and_eq_true, beq_iff_eq, Bool.not_eq_true', List.isEmpty_eq_false_iff] at hf
      obtain ⟨⟨hsz, hne⟩, hfe⟩ := hf
      have hpos : 0 < fs.length := List.length_pos_iff.2 hne
      rcases Go.Deep.open_slice ht h with ⟨hv, _⟩ | ⟨a, len, cap, m, n, D, Pl, hv, hb, hl, hm, hmm, hx, hi⟩
      · cases hv
        exact ⟨.nilS, .inl rfl, rfl, rfl, rfl⟩
      · cases hv
        have hlm : len ≤ m := by rw [hmm]; split <;> omega
        have hag : agg = false → fs.length = 1 := fun ha => by
          subst ha
          simp only [Bool.and_eq_true, beq_iff_eq] at hfe
          exact hfe.1
        refine row_got (base := base) hsz hpos hag hl hm fun i hil => ?_
        obtain ⟨cs', hc, ht'⟩ := hi i (by omega)
        refine ⟨cs', hc, ?_⟩
        have hcl := (World.cells?_some hc).2.1
        cases agg with
        | true =>
          split at hfe
          · rename_i fl _ he
            obtain ⟨ys, n', _, _, _, hlen, hg⟩ := DataW.trod_struct he ht'
            have hfl := fitsF_len hfe
            exact trodF fs (fl := fl.toList) (i := 0) (cs := cs') hfe (by rw [hcl, hsz]; omega) fun j f hj => by
              have := hg j f (by simpa using hj)
              have hj2 : j < ys.length := by rw [hlen]; have := (List.getElem?_eq_some_iff.1 hj).1; simpa using this
              rw [List.getElem?_eq_getElem hj2] at this
              exact ⟨n', _, this, rfl⟩
          · rename_i n2 u _ he
            simp only [Bool.and_eq_true, beq_iff_eq] at hfe
            obtain ⟨⟨hn, hu⟩, hfa⟩ := hfe
            obtain ⟨ys, n', _, _, hlen, hyl, hg⟩ := DataW.trod_array he ht'
            refine trodA fs (u := u) (cs := cs') (i := 0) hfa (by omega) fun j hj => ?_
            have h1 := hg j (by omega)
            rw [hu, Nat.mul_one] at h1
            have h2 : ys[j]? = some (ys[j]'(by omega)) := List.getElem?_eq_getElem (by omega)
            rw [h2] at h1
            exact ⟨n', _, by rw [Nat.zero_add]; exact h1⟩
          · rename_i hh; cases hh
          · cases hfe
        | false =>
          simp only [Bool.and_eq_true, beq_iff_eq] at hfe
          refine trodA fs (u := e) (cs := cs') (i := 0) hfe.2 (by omega) fun j hj => ?_
          obtain rfl : j = 0 := by omega
          exact ⟨n, _, by rw [List.drop_zero, List.take_of_length_le (by omega)]; exact ht'⟩
    · cases hf
theorem trodF : ∀ (fs : List Sh) {fl : List Field} {i : Nat} {cs : List Value}, fitsF P fs i fl = true → cs.length = i + fs.length →
    (∀ (j : Nat) (f : Field), fl[j]? = some f → ∃ n y, DataW.trod enc P w base spare held n f.type ((cs.drop f.offset).take (P.cellsOf f.type)) = y ∧ y.isSome = true) → GotL w fs (cs.drop i)
  | [], fl, i, cs, hf, hl, h => by
    rw [List.drop_of_length_le (by rw [hl]; simp)]
    exact gotL_nil
  | s :: fs, fl, i, cs, hf, hl, h => by
    cases fl with
    | nil => simp [fitsF] at hf
    | cons f fl =>
      simp only [fitsF, Bool.and_eq_true, beq_iff_eq] at hf
      obtain ⟨⟨⟨ho, hc⟩, hs⟩, hr⟩ := hf
      have hi : i < cs.length := by rw [hl]; simp
      rw [List.drop_eq_getElem_cons hi]
      obtain ⟨n, y, h1, h2⟩ := h 0 f rfl
      obtain ⟨d, rfl⟩ := Option.isSome_iff_exists.1 h2
      rw [ho, hc, List.drop_eq_getElem_cons hi, List.take_succ_cons, List.take_zero] at h1
      refine gotL_cons (trodC s hs h1) (trodF fs hr (by rw [hl]; simp; omega) fun j g hj => h (j + 1) g (by simpa using hj))
theorem trodA : ∀ (fs : List Sh) {u : TypeId} {i : Nat} {cs : List Value}, fitsA P fs u = true → cs.length = i + fs.length →
    (∀ j, j < fs.length → ∃ n d, DataW.trod enc P w base spare held n u ((cs.drop (i + j)).take 1) = some d) → GotL w fs (cs.drop i)
  | [], u, i, cs, hf, hl, h => by
    rw [List.drop_of_length_le (by rw [hl]; simp)]
    exact gotL_nil
  | s :: fs, u, i, cs, hf, hl, h => by
    simp only [fitsA, Bool.and_eq_true] at hf
    have hi : i < cs.length := by rw [hl]; simp
    rw [List.drop_eq_getElem_cons hi]
    obtain ⟨n, d, h1⟩ := h 0 (by simp)
    rw [Nat.add_zero, List.drop_eq_getElem_cons hi, List.take_succ_cons, List.take_zero] at h1
    refine gotL_cons (trodC s hf.1 h1) (trodA fs hf.2 (by rw [hl]; simp; omega) fun j hj => ?_)
    have := h (j + 1) (by simp; omega)
    rwa [show i + (j + 1) = i + 1 + j by omega] at this
end
end
end Go.Proofs.Ytdmjhlofphhldaa.Abs
