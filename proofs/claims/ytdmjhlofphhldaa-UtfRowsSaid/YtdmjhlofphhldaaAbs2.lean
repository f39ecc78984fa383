/-
  What changes memory: a new group, a store into a group, an append that moves a group. Plain facts on the meaning of data in memory.
-/
import Derived.Test.YtdmjhlofphhldaaAbs1
set_option linter.unusedSimpArgs false
set_option linter.unusedVariables false
namespace Go.Proofs.Ytdmjhlofphhldaa.Abs

/-- f, but y at i. -/
def fput {α : Type} (f : Nat → α) (i : Nat) (y : α) : Nat → α := fun j => if j = i then y else f j
theorem fput_same {α : Type} (f : Nat → α) (i : Nat) (y : α) : fput f i y i = y := by simp [fput]
theorem fput_ne {α : Type} (f : Nat → α) {i j : Nat} (y : α) (h : j ≠ i) : fput f i y j = f j := by simp [fput, h]

/-- The state behind a new block of this call's own. -/
def MS.grow (S : MS) (o : Obj) (ver cap wid : Nat) : MS :=
  { w := S.w.alloc o, im := S.im, keep := S.keep, n := S.n + 1, place := fput S.place S.n S.w.heap.size, cur := fput S.cur S.n ver, cap := fput S.cap S.n cap, wid := fput S.wid S.n wid, base := S.base }

theorem heap_alloc_lt (w : World) (o : Obj) (k : Nat) (h : k < w.heap.size) : (w.alloc o).heap[k]? = w.heap[k]? := by
  show (w.heap.push o)[k]? = _
  rw [Array.getElem?_push, if_neg (by omega)]
theorem heap_alloc_new (w : World) (o : Obj) : (w.alloc o).heap[w.heap.size]? = some o := by
  show (w.heap.push o)[w.heap.size]? = _
  simp
theorem size_alloc (w : World) (o : Obj) : (w.alloc o).heap.size = w.heap.size + 1 := by
  show (w.heap.push o).size = _
  simp

theorem Evo.grow {S : MS} (him : ∀ b, S.im b ∨ S.keep b → b < S.w.heap.size) (o : Obj) (ver cap wid : Nat) : Evo S (S.grow o ver cap wid) where
  base := rfl
  os := rfl
  tape := rfl
  output := rfl
  size := by show _ ≤ (S.w.alloc o).heap.size; rw [size_alloc]; omega
  kept b hb := heap_alloc_lt _ _ _ (him b hb)
  im _ h := h
  keep _ h := h
  fresh _ h := .inl h
  n := Nat.le_succ _
  cur g hg := by show _ ≤ fput _ _ _ _; rw [fput_ne _ _ (by omega)]; exact Nat.le_refl _
  same g hg _ := ⟨fput_ne _ _ (by omega), fput_ne _ _ (by omega), fput_ne _ _ (by omega)⟩

theorem AHeap.push_old (H : AHeap) (G : Grp) {g : Nat} (h : g < H.n) : (H.push G).at_ g = H.at_ g := by
  show (if g = H.n then G else H.at_ g) = _
  rw [if_neg (by omega)]
theorem AHeap.push_new (H : AHeap) (G : Grp) : (H.push G).at_ H.n = G := by
  show (if H.n = H.n then G else _) = _
  rw [if_pos rfl]

/-- A group stays what it was, where the state only grew, and its block is as it was. -/
theorem GRel.mono {S S' : MS} (e : Evo S S') {G : Grp} {g : Nat} (hg : g < S.n) (h : GRel S G g) (hc : S'.cur g = S.cur g) (hb : 0 < G.w → 0 < S.cap g → S'.w.heap[S.place g]? = S.w.heap[S.place g]?) (hi : 0 < G.w → 0 < S.cap g → ¬ (S'.im (S.place g) ∨ S'.keep (S.place g)))
    (hmb : G.w = 0 → G.exact = true → S'.w.heap[S.place g]? = S.w.heap[S.place g]? ∧ ¬ (S'.im (S.place g) ∨ S'.keep (S.place g))) : GRel S' G g := by
  obtain ⟨p1, p2, p3⟩ := e.same g hg hc
  refine ⟨hc.trans h.ver, p3.trans h.wid, fun hw hc => ?_, fun hw => by rw [p2]; exact h.len hw, fun hw he => by rw [p2]; exact h.full hw he, fun hw he => ?_⟩
  rotate_left
  · obtain ⟨⟨es, clock, h1, h2⟩, _⟩ := h.mlive hw he
    obtain ⟨q1, q2⟩ := hmb hw he
    rw [p1]
    exact ⟨⟨es, clock, q1.trans h1, VsRel.mono e _ h2⟩, q2⟩
  rw [p2] at hc
  obtain ⟨⟨cells, T, vs, h1, h2, h3, h4⟩, _⟩ := h.live hw hc
  rw [p1, p2]
  exact ⟨⟨cells, T, vs, (hb hw hc).trans h1, h2, VsRel.mono e _ h3, h4⟩, hi hw hc⟩

theorem GRel.lt {S : MS} {G : Grp} {g : Nat} (h : GRel S G g) (hw : 0 < G.w) (hc : 0 < S.cap g) : S.place g < S.w.heap.size := by
  obtain ⟨⟨cells, T, vs, h1, _⟩, _⟩ := h.live hw hc
  exact (Array.getElem?_eq_some_iff.1 h1).1

theorem GRel.mlt {S : MS} {G : Grp} {g : Nat} (h : GRel S G g) (hw : G.w = 0) (he : G.exact = true) : S.place g < S.w.heap.size := by
  obtain ⟨⟨es, clock, h1, _⟩, _⟩ := h.mlive hw he
  exact (Array.getElem?_eq_some_iff.1 h1).1
theorem GRel.has_lt {S : MS} {G : Grp} {g : Nat} (h : GRel S G g) (hh : G.has (S.cap g)) : S.place g < S.w.heap.size := by
  rcases hh with ⟨h1, h2⟩ | ⟨h1, h2⟩
  · exact h.lt h1 h2
  · exact h.mlt h1 h2
theorem GRel.has_ni {S : MS} {G : Grp} {g : Nat} (h : GRel S G g) (hh : G.has (S.cap g)) : ¬ (S.im (S.place g) ∨ S.keep (S.place g)) := by
  rcases hh with ⟨h1, h2⟩ | ⟨h1, h2⟩
  · exact (h.live h1 h2).2
  · exact (h.mlive h1 h2).2
/-- A group stays what it was. -/
theorem GRel.mono' {S S' : MS} (e : Evo S S') {G : Grp} {g : Nat} (hg : g < S.n) (h : GRel S G g) (hc : S'.cur g = S.cur g) (hb : G.has (S.cap g) → S'.w.heap[S.place g]? = S.w.heap[S.place g]?) (hi : G.has (S.cap g) → ¬ (S'.im (S.place g) ∨ S'.keep (S.place g))) : GRel S' G g :=
  h.mono e hg hc (fun hw hc => hb (.inl ⟨hw, hc⟩)) (fun hw hc => hi (.inl ⟨hw, hc⟩)) (fun hw he => ⟨hb (.inr ⟨hw, he⟩), hi (.inr ⟨hw, he⟩)⟩)

/-- A NEW GROUP. -/
theorem SRel.grow {S : MS} {H : AHeap} (h : SRel S H) (cells : Array Value) (T : TypeId) (G : Grp) (cap : Nat) (hc : cells.size = cap * G.w)
    {vs : List Value} (hv : VsRel S G.xs vs) (hf : Fills cells G.w vs)
    (hx : G.xs.length ≤ cap) (he : G.exact = true → G.xs.length = cap) (hw0 : 0 < G.w) : SRel (S.grow (.cells cells T) G.ver cap G.w) (H.push G) where
  n := by show S.n + 1 = H.n + 1; rw [h.n]
  grp g hg := by
    have e := Evo.grow h.im (.cells cells T) G.ver cap G.w
    by_cases hgn : g = H.n
    · subst hgn
      rw [AHeap.push_new]
      refine ⟨?_, ?_, fun _ _ => ⟨⟨cells, T, vs, ?_, ?_, VsRel.mono e _ hv, hf⟩, ?_⟩, fun _ => ?_, fun _ => ?_, fun h0 => by omega⟩
      · show fput _ _ _ _ = _; rw [← h.n, fput_same]
      · show fput _ _ _ _ = _; rw [← h.n, fput_same]
      · show (S.w.alloc _).heap[fput _ _ _ _]? = _; rw [← h.n, fput_same]; exact heap_alloc_new _ _
      · show _ = fput _ _ _ _ * _; rw [← h.n, fput_same]; exact hc
      · show ¬ (S.im (fput _ _ _ _) ∨ S.keep (fput _ _ _ _)); rw [← h.n, fput_same]; intro hh; have := h.im _ hh; omega
      · show _ ≤ fput _ _ _ _; rw [← h.n, fput_same]; exact hx
      · intro hh; show _ = fput _ _ _ _; rw [← h.n, fput_same]; exact he hh
    · have hg' : g < H.n := by have : g < H.n + 1 := hg; omega
      rw [AHeap.push_old _ _ hg']
      have hr := h.grp g hg'
      refine hr.mono' e (by rw [h.n]; exact hg') ?_ (fun hh => heap_alloc_lt _ _ _ (hr.has_lt hh)) (fun hh => ?_)
      · show fput _ _ _ _ = _; rw [fput_ne _ _ (by rw [h.n]; omega)]
      · exact hr.has_ni hh
  apart g g' hg hg' hne hw1 hw2 := by
    have key : ∀ k, k < H.n + 1 → ((H.push G).at_ k).has (fput S.cap S.n cap k) → (k = H.n ∧ fput S.place S.n S.w.heap.size k = S.w.heap.size) ∨ (k < H.n ∧ fput S.place S.n S.w.heap.size k = S.place k ∧ S.place k < S.w.heap.size ∧ (H.at_ k).has (S.cap k)) := by
      intro k hk hwk
      by_cases hkn : k = H.n
      · left; refine ⟨hkn, ?_⟩; rw [hkn, ← h.n, fput_same]
      · right
        have hk' : k < H.n := by omega
        rw [AHeap.push_old _ _ hk'] at hwk
        rw [fput_ne _ _ (by rw [h.n]; omega)] at hwk
        exact ⟨hk', fput_ne _ _ (by rw [h.n]; omega), (h.grp k hk').has_lt hwk, hwk⟩
    show fput _ _ _ _ ≠ fput _ _ _ _
    rcases key g hg hw1 with ⟨a1, a2⟩ | ⟨a1, a2, a3, a4⟩ <;> rcases key g' hg' hw2 with ⟨b1, b2⟩ | ⟨b1, b2, b3, b4⟩
    · omega
    · rw [a2, b2]; omega
    · rw [a2, b2]; omega
    · rw [a2, b2]; exact h.apart g g' a1 b1 hne a4 b4
  im b hb := by show b < (S.w.alloc _).heap.size; rw [size_alloc]; have := h.im b hb; omega

theorem Evo.drew (S : MS) : Evo S { S with w := S.w.drew } := ⟨rfl, rfl, rfl, rfl, Nat.le_refl _, fun _ _ => rfl, fun _ h => h, fun _ h => h, fun _ h => .inl h, Nat.le_refl _, fun _ _ => Nat.le_refl _, fun _ _ _ => ⟨rfl, rfl, rfl⟩⟩
theorem SRel.drew {S : MS} {H : AHeap} (h : SRel S H) : SRel { S with w := S.w.drew } H :=
  ⟨h.n, fun g hg => (h.grp g hg).mono' (Evo.drew S) (by rw [h.n]; exact hg) rfl (fun _ => rfl) (fun hh => (h.grp g hg).has_ni hh), h.apart, h.im⟩

/-- A group without room: no block. -/
def MS.virt (S : MS) (wid : Nat) : MS := { S with n := S.n + 1, cur := fput S.cur S.n 1, cap := fput S.cap S.n 0, wid := fput S.wid S.n wid }
theorem Evo.virt {S : MS} (wid : Nat) : Evo S (S.virt wid) := ⟨rfl, rfl, rfl, rfl, Nat.le_refl _, fun _ _ => rfl, fun _ h => h, fun _ h => h, fun _ h => .inl h, Nat.le_succ _,
  fun g hg => by show _ ≤ fput _ _ _ _; rw [fput_ne _ _ (by omega)]; exact Nat.le_refl _, fun g hg _ => ⟨rfl, fput_ne _ _ (by omega), fput_ne _ _ (by omega)⟩⟩
theorem SRel.virt {S : MS} {H : AHeap} (h : SRel S H) (wid : Nat) (hw0 : 0 < wid) : SRel (S.virt wid) (H.push ⟨wid, 1, true, []⟩) where
  n := by show S.n + 1 = H.n + 1; rw [h.n]
  grp g hg := by
    by_cases hgn : g = H.n
    · subst hgn
      rw [AHeap.push_new]
      have hc : (S.virt wid).cap H.n = 0 := by show fput _ _ _ _ = _; rw [← h.n, fput_same]
      exact ⟨by show fput _ _ _ _ = _; rw [← h.n, fput_same], by show fput _ _ _ _ = _; rw [← h.n, fput_same], fun _ h0 => by rw [hc] at h0; omega, fun _ => by rw [hc]; exact Nat.le_refl 0, fun _ _ => by rw [hc]; rfl, fun h0 => by have h0 : wid = 0 := h0; omega⟩
    · have hg' : g < H.n := by have : g < H.n + 1 := hg; omega
      rw [AHeap.push_old _ _ hg']
      have hr := h.grp g hg'
      exact hr.mono' (Evo.virt wid) (by rw [h.n]; exact hg') (fput_ne _ _ (by rw [h.n]; omega)) (fun _ => rfl) (fun hh => hr.has_ni hh)
  apart g g' hg hg' hne hw1 hw2 := by
    have key : ∀ k, k < H.n + 1 → ((H.push ⟨wid, 1, true, []⟩).at_ k).has (fput S.cap S.n 0 k) → k < H.n ∧ (H.at_ k).has (S.cap k) := by
      intro k hk hwk
      by_cases hkn : k = H.n
      · rw [hkn, AHeap.push_new, ← h.n, fput_same] at hwk
        rcases hwk with ⟨_, h2⟩ | ⟨h1, _⟩
        · omega
        · have h1 : wid = 0 := h1; omega
      · have hk' : k < H.n := by omega
        rw [AHeap.push_old _ _ hk', fput_ne _ _ (by rw [h.n]; omega)] at hwk
        exact ⟨hk', hwk⟩
    obtain ⟨a1, a2⟩ := key g hg hw1
    obtain ⟨b1, b2⟩ := key g' hg' hw2
    exact h.apart g g' a1 b1 hne a2 b2
  im := h.im

/-- Group g lies in block b' of the world w' now. -/
def MS.moved (S : MS) (w' : World) (g b' ver cap wid : Nat) : MS :=
  { w := w', im := S.im, keep := S.keep, n := S.n, place := fput S.place g b', cur := fput S.cur g ver, cap := fput S.cap g cap, wid := fput S.wid g wid, base := S.base }

/-- ANOTHER CONTENT OF A GROUP, in its block or in a new one. -/
theorem SRel.moved {S : MS} {H : AHeap} (h : SRel S H) {g : Nat} (hg : g < H.n) (hl : 0 < (H.at_ g).w) (w' : World) (b' cap' : Nat) (G' : Grp)
    (h1 : w'.os = S.w.os) (h2 : w'.tape = S.w.tape) (h3 : w'.output = S.w.output) (h4 : S.w.heap.size ≤ w'.heap.size) (h5 : ∀ b, ¬ (0 < S.cap g ∧ b = S.place g) → b < S.w.heap.size → w'.heap[b]? = S.w.heap[b]?)
    (hb : (0 < S.cap g ∧ b' = S.place g) ∨ S.w.heap.size ≤ b' ∨ cap' = 0)
    (hm : 0 < cap' → ∃ cells T vs, w'.heap[b']? = some (.cells cells T (0, 0)) ∧ cells.size = cap' * G'.w ∧ VsRel S G'.xs vs ∧ Fills cells G'.w vs) (hx : G'.xs.length ≤ cap') (he : G'.exact = true → G'.xs.length = cap')
    (hw0 : 0 < G'.w) (hver : S.cur g ≤ G'.ver) (hsame : G'.ver = S.cur g → b' = S.place g ∧ cap' = S.cap g ∧ G'.w = S.wid g) :
    Evo S (S.moved w' g b' G'.ver cap' G'.w) ∧ SRel (S.moved w' g b' G'.ver cap' G'.w) (H.set g G') := by
  have hr := h.grp g hg
  have hni : 0 < S.cap g → ¬ (S.im (S.place g) ∨ S.keep (S.place g)) := fun hc => (hr.live hl hc).2
  have hlt : 0 < S.cap g → S.place g < S.w.heap.size := hr.lt hl
  have e : Evo S (S.moved w' g b' G'.ver cap' G'.w) := by
    refine ⟨rfl, h1, h2, h3, h4, fun b hb => h5 b (fun hh => hni hh.1 (hh.2 ▸ hb)) (h.im b hb), fun _ hh => hh, fun _ hh => hh, fun _ hh => .inl hh, Nat.le_refl _, fun k hk => ?_, fun k hk hh => ?_⟩
    · show _ ≤ fput _ _ _ _
      by_cases hkg : k = g
      · subst hkg; rw [fput_same]; exact hver
      · rw [fput_ne _ _ hkg]; exact Nat.le_refl _
    · show fput _ _ _ _ = _ ∧ fput _ _ _ _ = _ ∧ fput _ _ _ _ = _
      change fput _ _ _ _ = _ at hh
      by_cases hkg : k = g
      · subst hkg
        rw [fput_same] at hh
        rw [fput_same, fput_same, fput_same]
        exact hsame hh
      · rw [fput_ne _ _ hkg, fput_ne _ _ hkg, fput_ne _ _ hkg]; exact ⟨rfl, rfl, rfl⟩
  have hni' : 0 < cap' → ¬ (S.im b' ∨ S.keep b') := by
    intro hc
    rcases hb with hb | hb | hb
    · rw [hb.2]; exact hni hb.1
    · intro hh; have := h.im _ hh; omega
    · omega
  refine ⟨e, h.n, fun k hk => ?_, fun k k' hk hk' hne hw1 hw2 => ?_, fun b hb => ?_⟩
  · by_cases hkg : k = g
    · subst hkg
      have : (H.set k G').at_ k = G' := by show (if _ then _ else _) = _; rw [if_pos rfl]
      rw [this]
      have hcap : (S.moved w' k b' G'.ver cap' G'.w).cap k = cap' := by show fput _ _ _ _ = _; rw [fput_same]
      refine ⟨?_, ?_, fun _ hc => ?_, fun _ => ?_, fun _ => ?_, fun h0 => by omega⟩
      · show fput _ _ _ _ = _; rw [fput_same]
      · show fput _ _ _ _ = _; rw [fput_same]
      · rw [hcap] at hc
        obtain ⟨cells, T, vs, m1, m2, m3, m4⟩ := hm hc
        refine ⟨⟨cells, T, vs, ?_, ?_, VsRel.mono e _ m3, m4⟩, ?_⟩
        · show w'.heap[fput _ _ _ _]? = _; rw [fput_same]; exact m1
        · rw [hcap]; exact m2
        · show ¬ (S.im (fput _ _ _ _) ∨ S.keep (fput _ _ _ _)); rw [fput_same]; exact hni' hc
      · rw [hcap]; exact hx
      · intro hh; rw [hcap]; exact he hh
    · have : (H.set g G').at_ k = H.at_ k := by show (if _ then _ else _) = _; rw [if_neg hkg]
      rw [this]
      have hrk := h.grp k hk
      refine hrk.mono' e (by rw [h.n]; exact hk) ?_ (fun hq => h5 _ (fun hh => h.apart k g hk hg hkg hq (.inl ⟨hl, hh.1⟩) hh.2) (hrk.has_lt hq)) (fun hq => hrk.has_ni hq)
      show fput _ _ _ _ = _; rw [fput_ne _ _ hkg]
  · have hk0 : k < H.n := hk
    have hk0' : k' < H.n := hk'
    have hat : ∀ j, j ≠ g → (H.set g G').at_ j = H.at_ j := fun j hj => by show (if _ then _ else _) = _; rw [if_neg hj]
    have hcap : ∀ j, (S.moved w' g b' G'.ver cap' G'.w).cap j = if j = g then cap' else S.cap j := fun j => rfl
    show fput _ _ _ _ ≠ fput _ _ _ _
    rw [hcap] at hw1 hw2
    have hgs : (H.set g G').at_ g = G' := by show (if _ then _ else _) = _; rw [if_pos rfl]
    by_cases hkg : k = g
    · subst hkg
      have hk'g : k' ≠ k := Ne.symm hne
      rw [hat k' hk'g, if_neg hk'g] at hw2
      rw [hgs, if_pos rfl] at hw1
      have hc1 : 0 < cap' := by
        rcases hw1 with ⟨_, hh⟩ | ⟨hh, _⟩
        · exact hh
        · omega
      rw [fput_same, fput_ne _ _ hk'g]
      have h6 := (h.grp k' hk0').has_lt hw2
      rcases hb with hb | hb | hb
      · rw [hb.2]; exact Ne.symm (h.apart k' k hk0' hg hk'g hw2 (.inl ⟨hl, hb.1⟩))
      · omega
      · omega
    · rw [hat k hkg, if_neg hkg] at hw1
      rw [fput_ne _ _ hkg]
      have h6 := (h.grp k hk0).has_lt hw1
      by_cases hk'g : k' = g
      · subst hk'g
        rw [hgs, if_pos rfl] at hw2
        have hc2 : 0 < cap' := by
          rcases hw2 with ⟨_, hh⟩ | ⟨hh, _⟩
          · exact hh
          · omega
        rw [fput_same]
        rcases hb with hb | hb | hb
        · rw [hb.2]; exact h.apart k k' hk0 hg hkg hw1 (.inl ⟨hl, hb.1⟩)
        · omega
        · omega
      · rw [hat k' hk'g, if_neg hk'g] at hw2
        rw [fput_ne _ _ hk'g]
        exact h.apart k k' hk0 hk0' hne hw1 hw2
  · show b < w'.heap.size
    have := h.im b hb
    omega

end Go.Proofs.Ytdmjhlofphhldaa.Abs
