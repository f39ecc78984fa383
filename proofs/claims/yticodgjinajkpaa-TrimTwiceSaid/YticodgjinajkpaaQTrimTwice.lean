/-
  Trimmed once more any description is the same; all its states come and go on, unless nothing is left; for every description, without conditions.
-/
import Derived.Test.YticodgjinajkpaaRows
import Derived.WalkKit
import Derived.ProofKit
import Derived.OpenShut
import Derived.ChangeOld
import Derived.Test.YticodgjinajkpaaDT8
set_option linter.unusedSimpArgs false
set_option linter.unusedVariables false
namespace Go.Proofs.Yticodgjinajkpaa.trimTwice
open Abs Go.ChangeShapes Go.WideShapes Go.ChangeAt Go.RowKit
theorem own : ownKnob Try.prog.godebug = none := by kernel_rfl
theorem laidOut : laidOutB Try.prog = true := by kernel_rfl
abbrev zl0 : List PSh := [.rcd zv9]
theorem data : ∀ xs, IsPs zl0 xs → PC Try.prog 8 xs (.bool true) := by
 intro xs h
 obtain ⟨x0, _, rfl, h0, rfl⟩ := h
 obtain ⟨a0, l0, k0⟩ := y5g h0
 exact z5f (zi6 a0) (z0e l0 z2k)
set_option maxRecDepth 100000 in
theorem lifted (os : Os) (started : os.Started) (H : Type) (enc : TypeId × Value → H) :
   ReturnsInHanded {} Try.checked os 8 .any (Rows.trimTwiceSpec.pre6 enc Try.prog Try.f8 Rows.trimTwiceRow.domain false) (Rows.trimTwiceSpec.post enc Try.prog Try.f8 false true false false) := by
 refine returnsInHanded_of_change (C := Try.checked) own started (by kernel_rfl) Try.func8
   (ChangeSpec.witness6 (enc := enc) (C := Try.checked) false ⟨#[], #[.agg #[.int .i64 0, .int .i64 0, .int .i64 0, .int .i64 0, .slice none 0 0, .slice none 0 0]], []⟩ 8 (by kernel_rfl) (by kernel_rfl) (by kernel_rfl) (by kernel_rfl)) ?_
 intro W base args ds gs before hval0 hW hcnd _
 have hW' := hW
 obtain ⟨p, q, hA0, hV, rfl, hfz, hnd⟩ := hW
 have hA : DataW.TrodAll enc Try.prog W 0 (fun _ => true) true Try.f8.params.toList args.toList ds p := hA0
 have hcall := zj4 (P := Try.prog) (ps := zl0) (ts := Try.f8.params.toList) (by kernel_rfl) data (fun j t v ht hv => hval0 j t v (by simpa using ht) (by simpa using hv)) hA
 have hlt := DataW.TrodAll.lt hA
 have hstay : ∀ W', Below W.heap.size W W' → DataW.TrodAll enc Try.prog W' 0 (fun b => decide (b < W.heap.size)) true Try.f8.params.toList args.toList ds p := fun W' hb => zct laidOut hb (by kernel_rfl) hlt hA
 rw [Try.params8] at hA
 obtain ⟨v0, vs0, d0, ds0, p0, q0, hargs0, hds0, hp0, h0, r0⟩ := trodAll_cons hA
 obtain ⟨e1, e2, e3⟩ := trodAll_nil r0
 subst e2
 subst hds0
 obtain ⟨rfl, rfl⟩ := trodVars_none hV
 simp only [List.append_nil] at hW'
 refine hcall.mono fun e W' ⟨he, hg⟩ => ?_
 subst he
 exact ⟨_, rfl, _, _, _, [], _, [], hW', trodAll_mk1 (shut_bool Try.underlying4 _), hstay W' hg, rfl, hg.frame _, fun h => by cases h⟩
theorem over : Rows.trimTwiceRow.holds Try.pinned (OpenSpec.ofChange Rows.trimTwiceSpec) :=
 OpenClaim.holds_of_wide 8 Try.f8 rfl rfl rfl rfl rfl rfl rfl ⟨rfl, rfl, rfl, rfl, rfl⟩ rfl rfl rfl rfl rfl (by kernel_rfl) Try.func8 (by kernel_rfl)
   (of_decide_eq_true (by kernel_rfl)) (by unfold Func.isWrapper; first | (rw [if_pos (by decide +kernel)]; kernel_rfl) | (rw [if_neg (by decide +kernel)]; exact ⟨rfl, rfl⟩))
   (fun os started H enc _ => lifted os started H enc)
theorem proved : Rows.TrimTwiceSaid :=
 over
#print axioms proved
end Go.Proofs.Yticodgjinajkpaa.trimTwice
