/-
  Of a well formed description of which one number is another one, whatever it is, it is told whether it is well formed still; for every description and all numbers, without conditions.
-/
import Derived.Test.YticodgjinajkpaaRows
import Derived.WalkKit
import Derived.ProofKit
import Derived.OpenShut
import Derived.ChangeOld
import Derived.Test.YticodgjinajkpaaDA9
set_option linter.unusedSimpArgs false
set_option linter.unusedVariables false
namespace Go.Proofs.Yticodgjinajkpaa.descSpoilt
open Abs Go.ChangeShapes Go.WideShapes Go.ChangeAt Go.RowKit
theorem own : ownKnob Try.prog.godebug = none := by kernel_rfl
theorem laidOut : laidOutB Try.prog = true := by kernel_rfl
abbrev zls : List PSh := [.rcd zn5, .cell (.int .i64), .cell (.int .i64), .cell (.int .i64)]
theorem data : ∀ xs, IsPs zls xs → PC Try.prog 5 xs (.bool true) := by
 intro xs h
 obtain ⟨x0, _, rfl, h0, x1, _, rfl, h1, x2, _, rfl, h2, x3, _, rfl, h3, rfl⟩ := h
 obtain ⟨a0, l0, k0⟩ := zvq h0
 obtain ⟨a1, rfl, k1⟩ := h1
 obtain ⟨a2, rfl, k2⟩ := h2
 obtain ⟨a3, rfl, k3⟩ := h3
 exact z8u (zf9 a0 a1 a2 a3 (wf_i64 k3)) (z0f l0 (z0f (AV.le_refl _) (z0f (AV.le_refl _) (z0f (AV.le_refl _) z3p))))
set_option maxRecDepth 100000 in
theorem lifted (os : Os) (started : os.Started) (H : Type) (enc : TypeId × Value → H) :
   ReturnsInHanded {} Try.checked os 5 .any (Rows.descSpoiltSpec.pre6 enc Try.prog Try.f5 Rows.descSpoiltRow.domain false) (Rows.descSpoiltSpec.post enc Try.prog Try.f5 false true false false) := by
 refine returnsInHanded_of_change (C := Try.checked) own started (by kernel_rfl) Try.func5
   (ChangeSpec.witness6 (enc := enc) (C := Try.checked) false ⟨#[], #[.agg #[.int .i64 0, .int .i64 0, .int .i64 0, .int .i64 0, .slice none 0 0, .slice none 0 0], .int .i64 0, .int .i64 0, .int .i64 0], []⟩ 8 (by kernel_rfl) (by kernel_rfl) (by kernel_rfl) (by kernel_rfl)) ?_
 intro W base args ds gs before hval0 hW hcnd _
 have hW' := hW
 obtain ⟨p, q, hA0, hV, rfl, hfz, hnd⟩ := hW
 have hA : DataW.TrodAll enc Try.prog W 0 (fun _ => true) true Try.f5.params.toList args.toList ds p := hA0
 have hcall := zk2 (P := Try.prog) (ps := zls) (ts := Try.f5.params.toList) (by kernel_rfl) data (fun j t v ht hv => hval0 j t v (by simpa using ht) (by simpa using hv)) hA
 have hlt := DataW.TrodAll.lt hA
 have hstay : ∀ W', Below W.heap.size W W' → DataW.TrodAll enc Try.prog W' 0 (fun b => decide (b < W.heap.size)) true Try.f5.params.toList args.toList ds p := fun W' hb => zd2 laidOut hb (by kernel_rfl) hlt hA
 rw [Try.params5] at hA
 obtain ⟨v0, vs0, d0, ds0, p0, q0, hargs0, hds0, hp0, h0, r0⟩ := trodAll_cons hA
 obtain ⟨v1, vs1, d1, ds1, p1, q1, hargs1, hds1, hp1, h1, r1⟩ := trodAll_cons r0
 obtain ⟨v2, vs2, d2, ds2, p2, q2, hargs2, hds2, hp2, h2, r2⟩ := trodAll_cons r1
 obtain ⟨v3, vs3, d3, ds3, p3, q3, hargs3, hds3, hp3, h3, r3⟩ := trodAll_cons r2
 obtain ⟨e1, e2, e3⟩ := trodAll_nil r3
 subst e2
 subst hds3
 subst hds2
 subst hds1
 subst hds0
 obtain ⟨rfl, rfl⟩ := trodVars_none hV
 simp only [List.append_nil] at hW'
 refine hcall.mono fun e W' ⟨he, hg⟩ => ?_
 subst he
 exact ⟨_, rfl, _, _, _, [], _, [], hW', trodAll_mk1 (shut_bool Try.underlying4 _), hstay W' hg, rfl, hg.frame _, fun h => by cases h⟩
theorem over : Rows.descSpoiltRow.holds Try.pinned (OpenSpec.ofChange Rows.descSpoiltSpec) :=
 OpenClaim.holds_of_wide 5 Try.f5 rfl rfl rfl rfl rfl rfl rfl ⟨rfl, rfl, rfl, rfl, rfl⟩ rfl rfl rfl rfl rfl (by kernel_rfl) Try.func5 (by kernel_rfl)
   (of_decide_eq_true (by kernel_rfl)) (by unfold Func.isWrapper; first | (rw [if_pos (by decide +kernel)]; kernel_rfl) | (rw [if_neg (by decide +kernel)]; exact ⟨rfl, rfl⟩))
   (fun os started H enc _ => lifted os started H enc)
theorem proved : Rows.DescSpoiltSaid :=
 over
#print axioms proved
end Go.Proofs.Yticodgjinajkpaa.descSpoilt
