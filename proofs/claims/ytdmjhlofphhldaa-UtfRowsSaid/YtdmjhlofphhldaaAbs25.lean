/-
  A whole law: from a contract for all data that may come in to the row that it asks for.
-/
import Derived.Test.YtdmjhlofphhldaaAbs24
import Derived.ProofKit
import Derived.ChangeOld
set_option linter.unusedSimpArgs false
set_option linter.unusedVariables false
namespace Go.Proofs.Ytdmjhlofphhldaa.Abs
open Go.RowKit Go.ChangeShapes Go.WideShapes

/-- The shape of a parameter: a cell; or a record of cells. -/
inductive PSh where
  | cell (s : Sh)
  | rcd (fs : List Sh)
def IsP : PSh → AV → Prop
  | .cell s, x => Is s x
  | .rcd fs, x => ∃ cs, x = .agg cs ∧ IsL fs cs
def IsPs : List PSh → List AV → Prop
  | [], xs => xs = []
  | p :: ps, xs => ∃ x r, xs = x :: r ∧ IsP p x ∧ IsPs ps r
def fitsP (P : Program) : PSh → TypeId → Bool
  | .cell s, t => fitsC P s t
  | .rcd fs, t => match P.underlying t with
    | some (.struct fl) => P.cellsOf t == fs.length && fitsF P fs 0 fl.toList
    | _ => false
def fitsPs (P : Program) : List PSh → List TypeId → Bool
  | [], [] => true
  | p :: ps, t :: ts => fitsP P p t && fitsPs P ps ts
  | _, _ => false

section
variable {H : Type} {enc : TypeId × Value → H} {P : Program} {w : World} {spare : Nat → Bool} {held : Bool}
theorem okWide_cell {s : Sh} {t : TypeId} {r : Reach} {b0 : Nat} {v : Value} (hf : fitsC P s t = true) (h : Value.okWide P w r b0 t v) : v.cells.toList = [v] := by
  cases s <;> simp only [fitsC] at hf <;> split at hf <;> first | (cases hf; done) | skip
  · obtain ⟨b, rfl⟩ := okWide_bool ‹_› h; rfl
  · obtain ⟨b, rfl⟩ := okWide_int ‹_› h; rfl
  · obtain ⟨b, rfl⟩ := okWide_string ‹_› h; rfl
  · obtain ⟨a, l, c, rfl⟩ := okWide_slice ‹_› h; rfl

theorem arg_got {p : PSh} {t : TypeId} {r : Reach} {b0 : Nat} {v : Value} {d : DataW H} {ps : List MemPlace} (hf : fitsP P p t = true) (hw : Value.okWide P w r b0 t v) (h : DataW.Trod enc P w 0 spare held t v d ps) : ∃ x, IsP p x ∧ VRel (MS.start w) x v := by
  obtain ⟨fuel, h⟩ := h
  cases p with
  | cell s =>
    rw [okWide_cell hf hw] at h
    obtain ⟨x, h1, h2, _⟩ := trodC s hf h
    exact ⟨x, h1, h2⟩
  | rcd fs =>
    simp only [fitsP] at hf
    split at hf
    · rename_i fl ht
      simp only [Bool.and_eq_true, beq_iff_eq] at hf
      obtain ⟨cs, rfl, hc⟩ := okWide_struct ht hw
      obtain ⟨ys, n', _, _, _, hlen, hg⟩ := DataW.trod_struct ht h
      have hfl := fitsF_len hf.2
      obtain ⟨xs, h1, h2, _⟩ := trodF fs (fl := fl.toList) (i := 0) (cs := cs.toList) hf.2 (by simp; omega) fun j f hj => by
        have := hg j f (by simpa using hj)
        have hj2 : j < ys.length := by rw [hlen]; have := (List.getElem?_eq_some_iff.1 hj).1; simpa using this
        rw [List.getElem?_eq_getElem hj2] at this
        exact ⟨n', _, this, rfl⟩
      exact ⟨.agg xs, ⟨xs, rfl, h1⟩, cs.toList, by simp, by simpa using h2⟩
    · cases hf

theorem args_got : ∀ {ps : List PSh} {ts : List TypeId} {vs : List Value} {ds : List (DataW H)} {q : List MemPlace} {r : Reach} {b0 : Nat}, fitsPs P ps ts = true → (∀ (j : Nat) t v, ts[j]? = some t → vs[j]? = some v → Value.okWide P w r b0 t v) →
    DataW.TrodAll enc P w 0 spare held ts vs ds q → ∃ xs, IsPs ps xs ∧ VsRel (MS.start w) xs vs
  | [], [], [], [], _, _, _, _, _, _ => ⟨[], rfl, rfl⟩
  | p :: ps, t :: ts, v :: vs, d :: ds, _, _, _, hf, hw, ⟨a, b, h1, h2, _⟩ => by
    simp only [fitsPs, Bool.and_eq_true] at hf
    obtain ⟨x, k1, k2⟩ := arg_got hf.1 (hw 0 t v rfl rfl) h1
    obtain ⟨xs, k3, k4⟩ := args_got hf.2 (fun j t v ht hv => hw (j + 1) t v (by simpa using ht) (by simpa using hv)) h2
    exact ⟨x :: xs, ⟨x, xs, rfl, k1, k3⟩, v, vs, rfl, k2, k4⟩
  | [], _ :: _, _, _, _, _, _, hf, _, _ => by simp [fitsPs] at hf
  | _ :: _, [], _, _, _, _, _, hf, _, _ => by simp [fitsPs] at hf
  | [], [], _ :: _, _, _, _, _, _, _, h => h.elim
  | [], [], [], _ :: _, _, _, _, _, _, h => h.elim
  | _ :: _, _ :: _, [], _, _, _, _, _, _, h => by cases ‹List (DataW H)› <;> exact h.elim
  | _ :: _, _ :: _, _ :: _, [], _, _, _, _, _, h => h.elim

def rowsOk (P : Program) (ts : List TypeId) : Bool := ts.all fun t => P.readableRec t && decide (t < P.types.size)
theorem args_stay {W W' : World} (hl : laidOutB P = true) (hb : Below W.heap.size W W') : ∀ {ts : List TypeId} {vs : List Value} {ds : List (DataW H)} {ps : List MemPlace}, rowsOk P ts = true → (∀ x ∈ ps, x.block < W.heap.size) →
    DataW.TrodAll enc P W 0 (fun _ => true) true ts vs ds ps → DataW.TrodAll enc P W' 0 (fun b => decide (b < W.heap.size)) true ts vs ds ps
  | [], [], [], _, _, _, h => h
  | t :: ts, v :: vs, d :: ds, _, hr, hlt, ⟨a, b, h1, h2, e⟩ => by
    subst e
    simp only [rowsOk, List.all_cons, Bool.and_eq_true, decide_eq_true_eq] at hr
    exact ⟨a, b, Below.trod hl hr.1.1 hr.1.2 h1 hb (fun x hx => hlt x (List.mem_append_left _ hx)), args_stay hl hb (by simpa [rowsOk] using hr.2) (fun x hx => hlt x (List.mem_append_right _ hx)) h2, rfl⟩
  | [], [], _ :: _, _, _, _, h => h.elim
  | [], _ :: _, _, _, _, _, h => by cases ‹List (DataW H)› <;> exact h.elim
  | _ :: _, [], _, _, _, _, h => by cases ‹List (DataW H)› <;> exact h.elim
  | _ :: _, _ :: _, [], _, _, _, h => h.elim

/-- THE CALL, whatever comes in. -/
theorem law_calls {f : Nat} {ps : List PSh} {ts : List TypeId} (hf : fitsPs P ps ts = true) (h : ∀ xs, IsPs ps xs → PC P f xs (.bool true)) {args : Array Value} {ds : List (DataW H)} {q : List MemPlace} {r : Reach} {b0 : Nat}
    (hw : ∀ (j : Nat) t v, ts[j]? = some t → args.toList[j]? = some v → Value.okWide P w r b0 t v) (hA : DataW.TrodAll enc P w 0 spare held ts args.toList ds q) :
    Calls P f args w fun e w' => e = .returned (.bool true) ∧ Below w.heap.size w w' := by
  obtain ⟨xs, h1, h2⟩ := args_got hf hw hA
  have := (h xs h1).below h2
  simpa using this
end
end Go.Proofs.Ytdmjhlofphhldaa.Abs
