/-
  The law DescCycles returns true whatever the input, and the input reads as it did. No conditions.
-/
import Derived.Test.YticodgjinajkpaaRows
import Derived.WalkKit
import Derived.ProofKit
import Derived.OpenShut
import Derived.ChangeOld
import Derived.Test.YticodgjinajkpaaDC8
set_option linter.unusedSimpArgs false
set_option linter.unusedVariables false
namespace Go.Proofs.Yticodgjinajkpaa.descCycles
open Abs Go.ChangeShapes Go.WideShapes Go.ChangeAt Go.RowKit
theorem own : ownKnob Try.prog.godebug = none := by kernel_rfl
theorem laidOut : laidOutB Try.prog = true := by kernel_rfl
abbrev shapes : List PSh := [.cell (.int .i64), .cell (.sl true [.int .u8, .int .u8])]
theorem data : ∀ xs, IsPs shapes xs → PC Try.prog 6 xs (.bool true) := by
  intro xs h
  obtain ⟨x0, _, rfl, h0, x1, _, rfl, h1, rfl⟩ := h
  obtain ⟨a0, rfl, k0⟩ := h0
  obtain ⟨a1, l1, m1, k1⟩ := is_edges h1
  exact pc_weak (law_DescCycles a0 a1 m1 k1) (leL_cons (AV.le_refl _) (leL_cons l1 leL_nil))
set_option maxRecDepth 100000 in
theorem lifted (os : Os) (started : os.Started) (H : Type) (enc : TypeId × Value → H) :
    ReturnsInHanded {} Try.checked os 6 .any (Rows.descCyclesSpec.pre6 enc Try.prog Try.f6 Rows.descCyclesRow.domain false) (Rows.descCyclesSpec.post enc Try.prog Try.f6 false true false false) := by
  refine returnsInHanded_of_change (C := Try.checked) own started (by kernel_rfl) Try.func6
    (ChangeSpec.witness6 (enc := enc) (C := Try.checked) false ⟨#[], #[.int .i64 0, .slice none 0 0], []⟩ 8 (by kernel_rfl) (by kernel_rfl) (by kernel_rfl) (by kernel_rfl)) ?_
  intro W base args ds gs before hval0 hW hcnd _
  have hW' := hW
  obtain ⟨p, q, hA0, hV, rfl, hfz, hnd⟩ := hW
  have hA : DataW.TrodAll enc Try.prog W 0 (fun _ => true) true Try.f6.params.toList args.toList ds p := hA0
  have hcall := law_calls (P := Try.prog) (ps := shapes) (ts := Try.f6.params.toList) (by kernel_rfl) data (fun j t v ht hv => hval0 j t v (by simpa using ht) (by simpa using hv)) hA
  have hlt := DataW.TrodAll.lt hA
  have hstay : ∀ W', Below W.heap.size W W' → DataW.TrodAll enc Try.prog W' 0 (fun b => decide (b < W.heap.size)) true Try.f6.params.toList args.toList ds p := fun W' hb => args_stay laidOut hb (by kernel_rfl) hlt hA
  rw [Try.params6] at hA
  obtain ⟨v0, vs0, d0, ds0, p0, q0, hargs0, hds0, hp0, h0, r0⟩ := trodAll_cons hA
  obtain ⟨v1, vs1, d1, ds1, p1, q1, hargs1, hds1, hp1, h1, r1⟩ := trodAll_cons r0
  obtain ⟨e1, e2, e3⟩ := trodAll_nil r1
  subst e2
  subst hds1
  subst hds0
  obtain ⟨rfl, rfl⟩ := trodVars_none hV
  simp only [List.append_nil] at hW'
  refine hcall.mono fun e W' ⟨he, hg⟩ => ?_
  subst he
  exact ⟨_, rfl, _, _, _, [], _, [], hW', trodAll_mk1 (shut_bool Try.underlying4 _), hstay W' hg, rfl, hg.frame _, fun h => by cases h⟩
theorem over : Rows.descCyclesRow.holds Try.pinned (OpenSpec.ofChange Rows.descCyclesSpec) :=
  OpenClaim.holds_of_wide 6 Try.f6 rfl rfl rfl rfl rfl rfl rfl ⟨rfl, rfl, rfl, rfl, rfl⟩ rfl rfl rfl rfl rfl (by kernel_rfl) Try.func6 (by kernel_rfl)
    (of_decide_eq_true (by kernel_rfl)) (by unfold Func.isWrapper; first | (rw [if_pos (by decide +kernel)]; kernel_rfl) | (rw [if_neg (by decide +kernel)]; exact ⟨rfl, rfl⟩))
    (fun os started H enc _ => lifted os started H enc)
theorem proved : Rows.DescCyclesSaid :=
  over
#print axioms proved
end Go.Proofs.Yticodgjinajkpaa.descCycles
