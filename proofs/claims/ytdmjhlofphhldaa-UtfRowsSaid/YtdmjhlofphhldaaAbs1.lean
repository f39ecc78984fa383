/-
  The abstract values of the walk: what a Go value means as data, and how it lies in memory. Nothing is claimed of the program here.
-/
import Derived.WalkKit
import Derived.Still
set_option linter.unusedSimpArgs false
set_option linter.unusedVariables false
namespace Go.Proofs.Ytdmjhlofphhldaa.Abs

/-- Data. 'lst': a slice in memory that is never written again (nil or not, where it has no elements); 'full': one without room behind it; 'map': a map that this call made (its group has width 0 and is exact; its elements are key, value, key, value ..); 'ref': a slice into a group (a block that this call made and may write; no block, where it has no room); 'cptr': the address of memory that is never written again; 'ptr': an address inside a group; 'nul': a slice, nil or not, with no room at all; 'emp': a slice without elements that isn't nil; 'any': nothing is claimed. -/
inductive AV where
  | any
  | bool (b : Bool)
  | int (k : IntKind) (n : Int)
  | str (s : List UInt8)
  | nilS
  | nul
  | emp
  | lst (w : Nat) (xs : List AV)
  | full (w : Nat) (xs : List AV)
  | map (g v : Nat)
  | ref (g v off len : Nat)
  | cptr (x : AV)
  | ptr (g v i o : Nat)
  | nilP
  | agg (cs : List AV)
  | tup (vs : List AV)
  | fn (f : Nat) (caps : List AV)
  | nilF
  deriving Inhabited

/-- Memory, and what is known of its blocks: which are never written again ('im'), which others must be left alone ('keep'), how many groups there are ('n'), and of each group its block, its version, its room (in elements), its elements' cells; and where the memory ended at this call's beginning. -/
structure MS where
  w : World
  im : Nat → Prop
  keep : Nat → Prop
  n : Nat
  place : Nat → Nat
  cur : Nat → Nat
  cap : Nat → Nat
  wid : Nat → Nat
  base : Nat

/-- The value 'v', of 'wd' cells, lies at block b from cell o on. -/
def Laid (w : World) (b o wd : Nat) (v : Value) : Prop := v.cells.size = wd ∧ (∀ c ∈ v.cells, c.oneCell' = true) ∧ ∀ j, j < wd → w.cell? ⟨b, o + j, none⟩ = v.cells[j]?

mutual
/-- No way leads from here into a group. -/
def AV.pure : AV → Bool
  | .ref .. | .ptr .. | .map .. => false
  | .agg cs | .tup cs | .fn _ cs => pureL cs
  | .lst _ xs | .full _ xs => pureL xs
  | .cptr x => x.pure
  | .any | .bool _ | .int .. | .str _ | .nilS | .nul | .emp | .nilP | .nilF => true
def pureL : List AV → Bool
  | [] => true
  | x :: xs => x.pure && pureL xs
end

/-- These elements, of 'wd' cells each, lie one behind the other. -/
def RowAt (w : World) (b o wd : Nat) (vs : List Value) : Prop := ∀ i v, vs[i]? = some v → Laid w b (o + i * wd) wd v

mutual
/-- The Go value v means x. -/
def VRel (S : MS) : AV → Value → Prop
  | .any, _ => True
  | .bool b, v => v = .bool b
  | .int k n, v => v = .int k n
  | .str s, v => v = .string ⟨s.toArray⟩
  | .nilS, v => v = .slice none 0 0
  | .nul, v => ∃ a, v = .slice a 0 0
  | .emp, v => ∃ a cap, v = .slice (some a) 0 cap
  | .lst wd xs, v => pureL xs = true ∧ 0 < wd ∧ ∃ a cap vs, v = .slice a xs.length cap ∧ (xs.length ≤ cap ∧ (a = none → cap = 0)) ∧ VsRel S xs vs ∧
      (xs ≠ [] → ∃ b o, a = some ⟨b, o, none⟩ ∧ S.im b ∧ RowAt S.w b o wd vs)
  | .full wd xs, v => pureL xs = true ∧ 0 < wd ∧ ∃ a vs, v = .slice a xs.length xs.length ∧ (a = none → xs.length = 0) ∧ VsRel S xs vs ∧
      (xs ≠ [] → ∃ b o, a = some ⟨b, o, none⟩ ∧ S.im b ∧ RowAt S.w b o wd vs)
  | .map g vn, v => (∃ a, v = .map (some a)) ∧ g < S.n ∧ vn ≤ S.cur g ∧ (S.cur g = vn → v = .map (some (S.place g)))
  | .ref g vn off len, v => (∃ a c, v = .slice a len c ∧ (a = none → len = 0)) ∧ g < S.n ∧ vn ≤ S.cur g ∧ (S.cur g = vn → ∃ a cap', v = .slice a len cap' ∧
      ((a = some ⟨S.place g, off * S.wid g, none⟩ ∧ cap' = S.cap g - off ∧ off + len ≤ S.cap g) ∨ (len = 0 ∧ cap' = 0 ∧ S.cap g ≤ off)))
  | .cptr x, v => x.pure = true ∧ ∃ b o u, v = .pointer (some ⟨b, o, none⟩) ∧ S.im b ∧ VRel S x u ∧ Laid S.w b o u.cells.size u
  | .ptr g vn i o, v => (∃ a, v = .pointer (some a)) ∧ g < S.n ∧ vn ≤ S.cur g ∧ (S.cur g = vn → v = .pointer (some ⟨S.place g, i * S.wid g + o, none⟩))
  | .nilP, v => v = .pointer none
  | .agg cs, v => ∃ vs : List Value, v = .agg vs.toArray ∧ VsRel S cs vs
  | .tup cs, v => ∃ vs : List Value, v = .tuple vs.toArray ∧ VsRel S cs vs
  | .fn f cs, v => ∃ vs : List Value, v = .func (.func f) #[] vs.toArray ∧ VsRel S cs vs
  | .nilF, v => v = .nilFunc
def VsRel (S : MS) : List AV → List Value → Prop
  | [], vs => vs = []
  | x :: xs, vs => ∃ v r, vs = v :: r ∧ VRel S x v ∧ VsRel S xs r
end

/-- A row's cells hold these elements, of 'wd' cells each, from its beginning on. -/
def Fills (cells : Array Value) (wd : Nat) (vs : List Value) : Prop :=
  ∀ i v, vs[i]? = some v → v.cells.size = wd ∧ (∀ c ∈ v.cells, c.oneCell' = true) ∧ ∀ j, j < wd → cells[i * wd + j]? = v.cells[j]?

/-- A group: its elements' cells, its version, whether all that lies in its block is told, its elements. -/
structure Grp where
  w : Nat
  ver : Nat
  exact : Bool
  xs : List AV
  deriving Inhabited

/-- The groups, by number. -/
structure AHeap where
  n : Nat
  at_ : Nat → Grp
  deriving Inhabited

def AHeap.nil : AHeap := ⟨0, fun _ => default⟩
def hput (f : Nat → Grp) (g : Nat) (G : Grp) : Nat → Grp := fun j => if j = g then G else f j
def AHeap.push (H : AHeap) (G : Grp) : AHeap := ⟨H.n + 1, hput H.at_ H.n G⟩
def AHeap.set (H : AHeap) (g : Nat) (G : Grp) : AHeap := ⟨H.n, hput H.at_ g G⟩

/-- A map's keys and values, one behind the other. -/
def flatE (es : Array MapEntry) : List Value := es.toList.flatMap fun e => [e.key, e.val]
/-- Has it a block? -/
def Grp.has (G : Grp) (c : Nat) : Prop := (0 < G.w ∧ 0 < c) ∨ (G.w = 0 ∧ G.exact = true)
theorem Grp.has_pos {G : Grp} {c : Nat} (hw : 0 < G.w) (hc : 0 < c) : G.has c := .inl ⟨hw, hc⟩
/-- What is known of group g's block, if it has room. A dead group ('w = 0', not exact): nothing. -/
structure GRel (S : MS) (G : Grp) (g : Nat) : Prop where
  ver : S.cur g = G.ver
  wid : S.wid g = G.w
  live : 0 < G.w → 0 < S.cap g → (∃ cells T vs, S.w.heap[S.place g]? = some (.cells cells T (0, 0)) ∧ cells.size = S.cap g * G.w ∧ VsRel S G.xs vs ∧ Fills cells G.w vs) ∧
    ¬ (S.im (S.place g) ∨ S.keep (S.place g))
  len : 0 < G.w → G.xs.length ≤ S.cap g
  full : 0 < G.w → G.exact = true → G.xs.length = S.cap g
  mlive : G.w = 0 → G.exact = true → (∃ es clock, S.w.heap[S.place g]? = some (.map es clock) ∧ VsRel S G.xs (flatE es)) ∧ ¬ (S.im (S.place g) ∨ S.keep (S.place g))

structure SRel (S : MS) (H : AHeap) : Prop where
  n : S.n = H.n
  grp : ∀ g, g < H.n → GRel S (H.at_ g) g
  apart : ∀ g g', g < H.n → g' < H.n → g ≠ g' → (H.at_ g).has (S.cap g) → (H.at_ g').has (S.cap g') → S.place g ≠ S.place g'
  im : ∀ b, S.im b ∨ S.keep b → b < S.w.heap.size

/-- From S to S': what is never written again hasn't been written. -/
structure Evo (S S' : MS) : Prop where
  base : S'.base = S.base
  os : S'.w.os = S.w.os
  tape : S'.w.tape = S.w.tape
  output : S'.w.output = S.w.output
  size : S.w.heap.size ≤ S'.w.heap.size
  kept : ∀ b, S.im b ∨ S.keep b → S'.w.heap[b]? = S.w.heap[b]?
  im : ∀ b, S.im b → S'.im b
  keep : ∀ b, S.keep b → S'.keep b
  fresh : ∀ b, S'.im b → S.im b ∨ ¬ S.keep b
  n : S.n ≤ S'.n
  cur : ∀ g, g < S.n → S.cur g ≤ S'.cur g
  same : ∀ g, g < S.n → S'.cur g = S.cur g → S'.place g = S.place g ∧ S'.cap g = S.cap g ∧ S'.wid g = S.wid g

theorem Evo.block {S S' : MS} (e : Evo S S') (b : Nat) (h : S.im b) : S'.w.heap[b]? = S.w.heap[b]? := e.kept b (.inl h)

theorem Evo.refl (S : MS) : Evo S S := ⟨rfl, rfl, rfl, rfl, Nat.le_refl _, fun _ _ => rfl, fun _ h => h, fun _ h => h, fun _ h => .inl h, Nat.le_refl _, fun _ _ => Nat.le_refl _, fun _ _ _ => ⟨rfl, rfl, rfl⟩⟩

theorem Evo.trans {A B C : MS} (h : Evo A B) (k : Evo B C) : Evo A C where
  base := k.base.trans h.base
  os := k.os.trans h.os
  tape := k.tape.trans h.tape
  output := k.output.trans h.output
  size := Nat.le_trans h.size k.size
  kept b hb := (k.kept b (hb.imp (h.im b) (h.keep b))).trans (h.kept b hb)
  im b hb := k.im b (h.im b hb)
  keep b hb := k.keep b (h.keep b hb)
  fresh b hb := (k.fresh b hb).elim (h.fresh b) (fun hn => .inr fun hk => hn (h.keep b hk))
  n := Nat.le_trans h.n k.n
  cur g hg := Nat.le_trans (h.cur g hg) (k.cur g (Nat.lt_of_lt_of_le hg h.n))
  same g hg e := by
    have h1 := h.cur g hg
    have h2 := k.cur g (Nat.lt_of_lt_of_le hg h.n)
    have e1 : B.cur g = A.cur g := by omega
    have e2 : C.cur g = B.cur g := by omega
    obtain ⟨p1, p2, p3⟩ := h.same g hg e1
    obtain ⟨q1, q2, q3⟩ := k.same g (Nat.lt_of_lt_of_le hg h.n) e2
    exact ⟨q1.trans p1, q2.trans p2, q3.trans p3⟩

theorem Laid.mono {w w' : World} {b o wd : Nat} {v : Value} (hb : w'.heap[b]? = w.heap[b]?) (h : Laid w b o wd v) : Laid w' b o wd v :=
  ⟨h.1, h.2.1, fun j hj => by rw [World.cell?_of_block (w := w) hb]; exact h.2.2 j hj⟩

theorem RowAt.mono {w w' : World} {b o wd : Nat} {vs : List Value} (hb : w'.heap[b]? = w.heap[b]?) (h : RowAt w b o wd vs) : RowAt w' b o wd vs :=
  fun i v hv => (h i v hv).mono hb

/-- .. as far as data is concerned. -/
structure Evi (S S' : MS) : Prop where
  block : ∀ b, S.im b → S'.w.heap[b]? = S.w.heap[b]?
  im : ∀ b, S.im b → S'.im b
  n : S.n ≤ S'.n
  cur : ∀ g, g < S.n → S.cur g ≤ S'.cur g
  same : ∀ g, g < S.n → S'.cur g = S.cur g → S'.place g = S.place g ∧ S'.cap g = S.cap g ∧ S'.wid g = S.wid g
theorem Evo.evi {S S' : MS} (e : Evo S S') : Evi S S' := ⟨e.block, e.im, e.n, e.cur, e.same⟩

mutual
theorem VRel.moni {S S' : MS} (e : Evi S S') : ∀ (x : AV) {v : Value}, VRel S x v → VRel S' x v
  | .any, _, _ => trivial
  | .bool _, _, h => h
  | .int _ _, _, h => h
  | .str _, _, h => h
  | .nilS, _, h => h
  | .nul, _, h => h
  | .emp, _, h => h
  | .nilP, _, h => h
  | .nilF, _, h => h
  | .lst wd xs, v, h => by
    obtain ⟨hp, hw, a, cap, vs, hv, hc, hl, hr⟩ := h
    exact ⟨hp, hw, a, cap, vs, hv, hc, VsRel.moni e xs hl, fun hne => let ⟨b, o, ha, hi, hrow⟩ := hr hne; ⟨b, o, ha, e.im b hi, hrow.mono (e.block b hi)⟩⟩
  | .ref g vn off len, v, h => by
    obtain ⟨hs, hg, hc, hv⟩ := h
    refine ⟨hs, Nat.lt_of_lt_of_le hg e.n, Nat.le_trans hc (e.cur g hg), fun h' => ?_⟩
    have := e.cur g hg
    have ec : S'.cur g = S.cur g := by omega
    obtain ⟨p1, p2, p3⟩ := e.same g hg ec
    rw [p1, p2, p3]
    exact hv (by omega)
  | .full wd xs, v, h => by
    obtain ⟨hp, hw, a, vs, hv, hc, hl, hr⟩ := h
    exact ⟨hp, hw, a, vs, hv, hc, VsRel.moni e xs hl, fun hne => let ⟨b, o, ha, hi, hrow⟩ := hr hne; ⟨b, o, ha, e.im b hi, hrow.mono (e.block b hi)⟩⟩
  | .map g vn, v, h => by
    obtain ⟨hs, hg, hc, hv⟩ := h
    refine ⟨hs, Nat.lt_of_lt_of_le hg e.n, Nat.le_trans hc (e.cur g hg), fun h' => ?_⟩
    have := e.cur g hg
    have ec : S'.cur g = S.cur g := by omega
    obtain ⟨p1, p2, p3⟩ := e.same g hg ec
    rw [p1]
    exact hv (by omega)
  | .cptr x, v, h => by
    obtain ⟨hp, b, o, u, hv, hi, hx, hl⟩ := h
    exact ⟨hp, b, o, u, hv, e.im b hi, VRel.moni e x hx, hl.mono (e.block b hi)⟩
  | .ptr g vn i o, v, h => by
    obtain ⟨hs, hg, hc, hv⟩ := h
    refine ⟨hs, Nat.lt_of_lt_of_le hg e.n, Nat.le_trans hc (e.cur g hg), fun h' => ?_⟩
    have := e.cur g hg
    have ec : S'.cur g = S.cur g := by omega
    obtain ⟨p1, p2, p3⟩ := e.same g hg ec
    rw [p1, p3]
    exact hv (by omega)
  | .agg cs, v, h => by
    obtain ⟨vs, hv, h⟩ := h
    exact ⟨vs, hv, VsRel.moni e cs h⟩
  | .tup cs, v, h => by
    obtain ⟨vs, hv, h⟩ := h
    exact ⟨vs, hv, VsRel.moni e cs h⟩
  | .fn f cs, v, h => by
    obtain ⟨vs, hv, h⟩ := h
    exact ⟨vs, hv, VsRel.moni e cs h⟩
theorem VsRel.moni {S S' : MS} (e : Evi S S') : ∀ (xs : List AV) {vs : List Value}, VsRel S xs vs → VsRel S' xs vs
  | [], _, h => h
  | x :: xs, vs, h => by
    obtain ⟨v, r, hv, h1, h2⟩ := h
    exact ⟨v, r, hv, VRel.moni e x h1, VsRel.moni e xs h2⟩
end

theorem VRel.mono {S S' : MS} (e : Evo S S') (x : AV) {v : Value} (h : VRel S x v) : VRel S' x v := VRel.moni e.evi x h
theorem VsRel.mono {S S' : MS} (e : Evo S S') (xs : List AV) {vs : List Value} (h : VsRel S xs vs) : VsRel S' xs vs := VsRel.moni e.evi xs h

theorem full_lst {S : MS} {w : Nat} {xs : List AV} {v : Value} (h : VRel S (.full w xs) v) : VRel S (.lst w xs) v := by
  obtain ⟨hp, hw, a, vs, hv, hc, hl, hr⟩ := h
  exact ⟨hp, hw, a, _, vs, hv, ⟨Nat.le_refl _, hc⟩, hl, hr⟩

theorem Fills.row {w : World} {b : Nat} {cells : Array Value} {T : TypeId} {fz : Nat × Nat} {wd : Nat} {vs : List Value} (hb : w.heap[b]? = some (.cells cells T fz)) (h : Fills cells wd vs) : RowAt w b 0 wd vs :=
  fun i v hv => by
    obtain ⟨h1, h2, h3⟩ := h i v hv
    refine ⟨h1, h2, fun j hj => ?_⟩
    rw [← h3 j hj]
    simp [World.cell?, hb]

/-! ### Lists of values -/
theorem VsRel.length {S : MS} : ∀ {xs : List AV} {vs : List Value}, VsRel S xs vs → vs.length = xs.length
  | [], _, h => by rw [show _ = [] from h]; rfl
  | _ :: _, _, ⟨_, _, hv, _, h2⟩ => by rw [hv]; simp [VsRel.length h2]

theorem VsRel.get {S : MS} : ∀ {xs : List AV} {vs : List Value}, VsRel S xs vs → ∀ {i : Nat} {x : AV}, xs[i]? = some x → ∃ v, vs[i]? = some v ∧ VRel S x v
  | [], _, _, i, x, hx => by simp at hx
  | y :: ys, vs, ⟨v, r, hv, h1, h2⟩, i, x, hx => by
    subst hv
    cases i with
    | zero => simp at hx; subst hx; exact ⟨v, rfl, h1⟩
    | succ i => simp at hx; simpa using VsRel.get h2 hx

theorem VsRel.get' {S : MS} {xs : List AV} {vs : List Value} (h : VsRel S xs vs) {i : Nat} {v : Value} (hv : vs[i]? = some v) : ∃ x, xs[i]? = some x ∧ VRel S x v := by
  have hl : i < xs.length := by rw [← h.length]; exact (List.getElem?_eq_some_iff.1 hv).1
  obtain ⟨u, hu, hr⟩ := h.get (List.getElem?_eq_getElem hl)
  rw [hu] at hv
  cases hv
  exact ⟨_, List.getElem?_eq_getElem hl, hr⟩

theorem VsRel.append {S : MS} : ∀ {xs ys : List AV} {vs us : List Value}, VsRel S xs vs → VsRel S ys us → VsRel S (xs ++ ys) (vs ++ us)
  | [], _, _, _, h, k => by rw [show _ = [] from h]; simpa using k
  | _ :: _, _, _, _, ⟨v, r, hv, h1, h2⟩, k => by subst hv; exact ⟨v, r ++ _, rfl, h1, VsRel.append h2 k⟩

theorem VsRel.of_get {S : MS} : ∀ {xs : List AV} {vs : List Value}, vs.length = xs.length → (∀ (i : Nat) (x : AV) (v : Value), xs[i]? = some x → vs[i]? = some v → VRel S x v) → VsRel S xs vs
  | [], vs, hl, _ => by show vs = []; simpa using hl
  | x :: xs, [], hl, _ => by simp at hl
  | x :: xs, v :: vs, hl, h => ⟨v, vs, rfl, h 0 x v rfl rfl, VsRel.of_get (by simpa using hl) (fun i y u hy hu => h (i + 1) y u (by simpa using hy) (by simpa using hu))⟩

theorem VsRel.take {S : MS} {xs : List AV} {vs : List Value} (h : VsRel S xs vs) (n : Nat) : VsRel S (xs.take n) (vs.take n) :=
  VsRel.of_get (by simp [h.length]) fun i x v hx hv => by
    rw [List.getElem?_take] at hx hv
    split at hx
    · rename_i hi
      rw [if_pos hi] at hv
      obtain ⟨u, hu, hr⟩ := h.get hx
      rw [hu] at hv; cases hv; exact hr
    · cases hx

theorem VsRel.drop {S : MS} {xs : List AV} {vs : List Value} (h : VsRel S xs vs) (n : Nat) : VsRel S (xs.drop n) (vs.drop n) :=
  VsRel.of_get (by simp [h.length]) fun i x v hx hv => by
    rw [List.getElem?_drop] at hx hv
    obtain ⟨u, hu, hr⟩ := h.get hx
    rw [hu] at hv; cases hv; exact hr

theorem VsRel.set {S : MS} {xs : List AV} {vs : List Value} (h : VsRel S xs vs) {i : Nat} {x : AV} {v : Value} (hx : VRel S x v) : VsRel S (xs.set i x) (vs.set i v) :=
  VsRel.of_get (by simp [h.length]) fun j y u hy hu => by
    by_cases hij : i = j
    · subst hij
      rw [List.getElem?_set] at hy hu
      simp only [if_true] at hy hu
      split at hy
      · cases hy
        split at hu
        · cases hu; exact hx
        · cases hu
      · cases hy
    · rw [List.getElem?_set_ne hij] at hy hu
      obtain ⟨u', hu', hr⟩ := h.get hy
      rw [hu'] at hu; cases hu; exact hr

theorem VsRel.one {S : MS} {x : AV} {v : Value} (h : VRel S x v) : VsRel S [x] [v] := ⟨v, [], rfl, h, rfl⟩

theorem VsRel.nil_inv {S : MS} {vs : List Value} (h : VsRel S [] vs) : vs = [] := h
theorem VsRel.cons_inv {S : MS} {x : AV} {xs : List AV} {v : Value} {vs : List Value} (h : VsRel S (x :: xs) (v :: vs)) : VRel S x v ∧ VsRel S xs vs := by
  obtain ⟨u, r, hv, h1, h2⟩ := h
  cases hv
  exact ⟨h1, h2⟩

/-! ### The cells of a value -/
/-- Its cells: of a struct or an array its parts. -/
def AV.cells : AV → List AV
  | .agg cs => cs
  | x => [x]
def AV.isAny : AV → Bool
  | .any => true
  | _ => false

theorem VRel.cells {S : MS} {x : AV} {v : Value} (hx : x.isAny = false) (h : VRel S x v) : VsRel S x.cells v.cells.toList := by
  cases x with
  | any => cases hx
  | agg cs => obtain ⟨vs, rfl, h⟩ := h; simpa [Value.cells, AV.cells] using h
  | bool b => rw [show v = _ from h]; exact .one rfl
  | int k n => rw [show v = _ from h]; exact .one rfl
  | str s => rw [show v = _ from h]; exact .one rfl
  | nilS => rw [show v = _ from h]; exact .one rfl
  | nilP => rw [show v = _ from h]; exact .one rfl
  | nilF => rw [show v = _ from h]; exact .one rfl
  | nul => have h' := h; obtain ⟨a, rfl⟩ := h; exact .one h'
  | emp => have h' := h; obtain ⟨a, cap, rfl⟩ := h; exact .one h'
  | lst wd xs => have h' := h; obtain ⟨_, _, a, cap, vs, rfl, _⟩ := h; exact .one h'
  | full wd xs => have h' := h; obtain ⟨_, _, a, vs, rfl, _⟩ := h; exact .one h'
  | map g vn => have h' := h; obtain ⟨⟨a, rfl⟩, _⟩ := h; exact .one h'
  | cptr x => have h' := h; obtain ⟨_, b, o, u, rfl, _⟩ := h; exact .one h'
  | tup cs => have h' := h; obtain ⟨vs, rfl, _⟩ := h; exact .one h'
  | fn f cs => have h' := h; obtain ⟨vs, rfl, _⟩ := h; exact .one h'
  | ref g vn off len => have h' := h; obtain ⟨⟨a, c, rfl, _⟩, _⟩ := h; exact .one h'
  | ptr g vn i o => have h' := h; obtain ⟨⟨a, rfl⟩, _⟩ := h; exact .one h'

end Go.Proofs.Ytdmjhlofphhldaa.Abs
