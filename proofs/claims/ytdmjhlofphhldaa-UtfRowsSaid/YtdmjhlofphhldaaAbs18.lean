/-
  From a contract to what a statement asks: the answer, and that no memory that came in has turned.
-/
import Derived.Test.YtdmjhlofphhldaaAbs17
import Derived.Below
set_option linter.unusedSimpArgs false
set_option linter.unusedVariables false
namespace Go.Proofs.Ytdmjhlofphhldaa.Abs
open Go.RowKit

/-- All memory that came in is data. -/
def MS.start (w : World) : MS := ⟨w, fun b => b < w.heap.size, fun _ => False, 0, fun _ => 0, fun _ => 0, fun _ => 0, fun _ => 0, 0⟩
theorem start_rel (w : World) : SRel (MS.start w) AHeap.nil :=
  ⟨rfl, fun g hg => absurd hg (Nat.not_lt_zero _), fun g _ hg => absurd hg (Nat.not_lt_zero _), fun b hb => hb.elim id False.elim⟩

/-- WHAT A CONTRACT SAYS OF A CALL IN ANY WORLD. -/
theorem PC.below {P : Program} {f : Nat} {xs : List AV} {b : Bool} (h : PC P f xs (.bool b)) {w : World} {cargs : List Value} (hx : VsRel (MS.start w) xs cargs) :
    Calls P f cargs.toArray w fun e w' => e = .returned (.bool b) ∧ Below w.heap.size w w' := by
  refine (h.2 (MS.start w) cargs (start_rel w) hx).mono fun e w' hh => ?_
  obtain ⟨v, S', x, H', rfl, rfl, ev, _, hv, rfl, _⟩ := hh
  have hv' : v = .bool b := hv
  subst hv'
  exact ⟨rfl, ev.os, ev.tape, ev.output, ev.size, fun k hk => ev.kept k (.inl hk)⟩

/-- A slice of numbers that came in: it is nil; or it leads to a row of 'cap' cells. -/
def IsRow (k : IntKind) (w : World) (a : Option Addr) (len cap : Nat) (zs : List Int) : Prop :=
  (a = none ∧ len = 0 ∧ cap = 0 ∧ zs = []) ∨
  ∃ x, a = some x ∧ len ≤ cap ∧ cap ≤ maxLen ∧ zs.length = cap ∧ (∀ i, i < zs.length → w.cell? (x.add i) = some (.int k (zs.getD i 0))) ∧ ∀ n ∈ zs, (Lit.int k n).wf = true

/-- .. as data. -/
def rowData (k : IntKind) (a : Option Addr) (len : Nat) (zs : List Int) : AV := if a = none then .nilS else .lst 1 ((zs.take len).map (.int k ·))

theorem vs_ints (S : MS) (k : IntKind) : ∀ zs : List Int, VsRel S (zs.map (AV.int k ·)) (zs.map (Value.int k ·))
  | [] => rfl
  | _ :: zs => ⟨_, _, rfl, rfl, vs_ints S k zs⟩
theorem pure_ints (k : IntKind) (l : List Int) : pureL (l.map (AV.int k ·)) = true := by
  induction l with
  | nil => rfl
  | cons x l ih => simp [pureL, AV.pure, ih]

theorem cell_block {w : World} {a : Addr} {v : Value} (h : w.cell? a = some v) : a.block < w.heap.size := by
  unfold World.cell? at h
  split at h
  · rename_i hb; exact (Array.getElem?_eq_some_iff.1 hb).1
  · cases h
theorem isRow_rel {k : IntKind} {w : World} {a : Option Addr} {len cap : Nat} {zs : List Int} (h : IsRow k w a len cap zs) : VRel (MS.start w) (rowData k a len zs) (.slice a len cap) := by
  rcases h with ⟨rfl, rfl, rfl, rfl⟩ | ⟨x, rfl, hl, hm, hz, hc, _⟩
  · rfl
  · have hlen : ((zs.take len).map (AV.int k ·)).length = len := by simp; omega
    refine ⟨pure_ints k _, by decide, x, cap, (zs.take len).map (Value.int k ·), by rw [hlen], ⟨by rw [hlen]; exact hl, fun hn => by cases hn⟩, vs_ints _ _ _, fun hne => ?_⟩
    have h0 : 0 < len := by
      rw [← hlen]
      exact List.length_pos_iff.2 hne
    obtain ⟨b, o, spot⟩ := x
    have hc0 := hc 0 (by omega)
    have hspot : spot = none := by simpa [Addr.add] using World.cell?_spot hc0
    subst hspot
    refine ⟨b, o, rfl, ?_, ?_⟩
    · exact cell_block hc0
    · intro i v hv
      rw [List.getElem?_map, List.getElem?_take] at hv
      split at hv
      · rename_i hi
        have hi2 : i < zs.length := by omega
        rw [List.getElem?_eq_getElem hi2] at hv
        simp only [Option.map_some, Option.some.injEq] at hv
        subst hv
        have hci := hc i hi2
        refine ⟨rfl, by simp [Value.cells, Value.oneCell'], fun j hj => ?_⟩
        obtain rfl : j = 0 := by omega
        have e : zs.getD i 0 = zs[i] := by simp [List.getD, hi2]
        rw [e] at hci
        have ea : (⟨b, o, none⟩ : Addr).add i = ⟨b, o + i * 1 + 0, none⟩ := by
          unfold Addr.add
          split
          · rename_i hi0; subst hi0; simp
          · simp
        rw [ea] at hci
        exact hci
      · cases hv
end Go.Proofs.Ytdmjhlofphhldaa.Abs
