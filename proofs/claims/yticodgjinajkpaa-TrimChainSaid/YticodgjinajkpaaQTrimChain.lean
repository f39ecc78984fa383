/-
  Of a chain of states of which one link is missing what lies behind it doesn't come, what lies ahead of it doesn't go on, and nothing is left but an empty description; for all numbers, without conditions.
-/
import Derived.Test.YticodgjinajkpaaRows
import Derived.WalkKit
import Derived.ProofKit
import Derived.OpenShut
import Derived.ChangeOld
import Derived.Test.YticodgjinajkpaaDT8
set_option linter.unusedSimpArgs false
set_option linter.unusedVariables false
namespace Go.Proofs.Yticodgjinajkpaa.trimChain
open Abs Go.ChangeShapes Go.WideShapes Go.ChangeAt Go.RowKit
theorem own : ownKnob Try.prog.godebug = none := by kernel_rfl
theorem laidOut : laidOutB Try.prog = true := by kernel_rfl
abbrev zl0 : List PSh := [.cell (.int .u8), .cell (.int .u8), .cell .bool]
theorem data : ∀ xs, IsPs zl0 xs → PC Try.prog 9 xs (.bool true) := by
 intro xs h
 obtain ⟨x0, _, rfl, h0, x1, _, rfl, h1, x2, _, rfl, h2, rfl⟩ := h
 obtain ⟨a0, rfl, k0⟩ := h0
 obtain ⟨a1, rfl, k1⟩ := h1
 obtain ⟨a2, rfl⟩ := h2
 exact z5f (zi8 a0 a1 a2 (wf_u8 k0) (wf_u8 k1)) (z0e (AV.le_refl _) (z0e (AV.le_refl _) (z0e (AV.le_refl _) z2k)))
set_option maxRecDepth 100000 in
theorem lifted (os : Os) (started : os.Started) (H : Type) (enc : TypeId × Value → H) :
   ReturnsInHanded {} Try.checked os 9 .any (Rows.trimChainSpec.pre6 enc Try.prog Try.f9 Rows.trimChainRow.domain false) (Rows.trimChainSpec.post enc Try.prog Try.f9 false true false false) := by
 refine returnsInHanded_of_change (C := Try.checked) own started (by kernel_rfl) Try.func9
   (ChangeSpec.witness6 (enc := enc) (C := Try.checked) false ⟨#[], #[.int .u8 0, .int .u8 0, .bool false], []⟩ 8 (by kernel_rfl) (by kernel_rfl) (by kernel_rfl) (by kernel_rfl)) ?_
 intro W base args ds gs before hval0 hW hcnd _
 have hW' := hW
 obtain ⟨p, q, hA0, hV, rfl, hfz, hnd⟩ := hW
 have hA : DataW.TrodAll enc Try.prog W 0 (fun _ => true) true Try.f9.params.toList args.toList ds p := hA0
 have hcall := zj4 (P := Try.prog) (ps := zl0) (ts := Try.f9.params.toList) (by kernel_rfl) data (fun j t v ht hv => hval0 j t v (by simpa using ht) (by simpa using hv)) hA
 have hlt := DataW.TrodAll.lt hA
 have hstay : ∀ W', Below W.heap.size W W' → DataW.TrodAll enc Try.prog W' 0 (fun b => decide (b < W.heap.size)) true Try.f9.params.toList args.toList ds p := fun W' hb => zct laidOut hb (by kernel_rfl) hlt hA
 rw [Try.params9] at hA
 obtain ⟨v0, vs0, d0, ds0, p0, q0, hargs0, hds0, hp0, h0, r0⟩ := trodAll_cons hA
 obtain ⟨v1, vs1, d1, ds1, p1, q1, hargs1, hds1, hp1, h1, r1⟩ := trodAll_cons r0
 obtain ⟨v2, vs2, d2, ds2, p2, q2, hargs2, hds2, hp2, h2, r2⟩ := trodAll_cons r1
 obtain ⟨e1, e2, e3⟩ := trodAll_nil r2
 subst e2
 subst hds2
 subst hds1
 subst hds0
 obtain ⟨rfl, rfl⟩ := trodVars_none hV
 simp only [List.append_nil] at hW'
 refine hcall.mono fun e W' ⟨he, hg⟩ => ?_
 subst he
 exact ⟨_, rfl, _, _, _, [], _, [], hW', trodAll_mk1 (shut_bool Try.underlying4 _), hstay W' hg, rfl, hg.frame _, fun h => by cases h⟩
theorem over : Rows.trimChainRow.holds Try.pinned (OpenSpec.ofChange Rows.trimChainSpec) :=
 OpenClaim.holds_of_wide 9 Try.f9 rfl rfl rfl rfl rfl rfl rfl ⟨rfl, rfl, rfl, rfl, rfl⟩ rfl rfl rfl rfl rfl (by kernel_rfl) Try.func9 (by kernel_rfl)
   (of_decide_eq_true (by kernel_rfl)) (by unfold Func.isWrapper; first | (rw [if_pos (by decide +kernel)]; kernel_rfl) | (rw [if_neg (by decide +kernel)]; exact ⟨rfl, rfl⟩))
   (fun os started H enc _ => lifted os started H enc)
theorem proved : Rows.TrimChainSaid :=
 over
#print axioms proved
end Go.Proofs.Yticodgjinajkpaa.trimChain
