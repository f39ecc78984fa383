/-
  The law TermImages returns true whatever the input, and the input reads as it did. No conditions.
-/
import Derived.Test.YtdjbcenfgceejaaRows
import Derived.WalkKit
import Derived.ProofKit
import Derived.OpenShut
import Derived.ChangeOld
import Derived.Test.YtdjbcenfgceejaaTB9
set_option linter.unusedSimpArgs false
set_option linter.unusedVariables false
namespace Go.Proofs.Ytdjbcenfgceejaa.termImages
open Abs Go.ChangeShapes Go.WideShapes Go.ChangeAt Go.RowKit
theorem own : ownKnob Try.prog.godebug = none := by kernel_rfl
theorem laidOut : laidOutB Try.prog = true := by kernel_rfl
abbrev shapes : List PSh := [.rcd shTermL, .cell shGuards]
theorem data : ∀ xs, IsPs shapes xs → PC Try.prog 10 xs (.bool true) := by
  intro xs h
  obtain ⟨x0, _, rfl, h0, x1, _, rfl, h1, rfl⟩ := h
  obtain ⟨a0, l0, k0⟩ := is_term h0
  obtain ⟨a1, l1, m1, k1⟩ := is_guards h1
  exact pc_weak (law_TermImages a0 a1 k0 m1) (leL_cons l0 (leL_cons l1 leL_nil))
set_option maxRecDepth 100000 in
theorem lifted (os : Os) (started : os.Started) (H : Type) (enc : TypeId × Value → H) :
    ReturnsInHanded {} Try.checked os 10 .any (Rows.termImagesSpec.pre6 enc Try.prog Try.f10 Rows.termImagesRow.domain false) (Rows.termImagesSpec.post enc Try.prog Try.f10 false true false false) := by
  refine returnsInHanded_of_change (C := Try.checked) own started (by kernel_rfl) Try.func10
    (ChangeSpec.witness6 (enc := enc) (C := Try.checked) false ⟨#[], #[.agg #[.int .i64 0, .int .i64 0, .int .i64 0, .int .i64 0, .int .i64 0, .slice none 0 0], .slice none 0 0], []⟩ 8 (by kernel_rfl) (by kernel_rfl) (by kernel_rfl) (by kernel_rfl)) ?_
  intro W base args ds gs before hval0 hW hcnd _
  have hW' := hW
  obtain ⟨p, q, hA0, hV, rfl, hfz, hnd⟩ := hW
  have hA : DataW.TrodAll enc Try.prog W 0 (fun _ => true) true Try.f10.params.toList args.toList ds p := hA0
  have hcall := law_calls (P := Try.prog) (ps := shapes) (ts := Try.f10.params.toList) (by kernel_rfl) data (fun j t v ht hv => hval0 j t v (by simpa using ht) (by simpa using hv)) hA
  have hlt := DataW.TrodAll.lt hA
  have hstay : ∀ W', Below W.heap.size W W' → DataW.TrodAll enc Try.prog W' 0 (fun b => decide (b < W.heap.size)) true Try.f10.params.toList args.toList ds p := fun W' hb => args_stay laidOut hb (by kernel_rfl) hlt hA
  rw [Try.params10] at hA
  obtain ⟨v0, vs0, d0, ds0, p0, q0, hargs0, hds0, hp0, h0, r0⟩ := trodAll_cons hA
  obtain ⟨v1, vs1, d1, ds1, p1, q1, hargs1, hds1, hp1, h1, r1⟩ := trodAll_cons r0
  obtain ⟨e1, e2, e3⟩ := trodAll_nil r1
  subst e2
  subst hds1
  subst hds0
  obtain ⟨rfl, rfl⟩ := trodVars_none hV
  simp only [List.append_nil] at hW'
  refine hcall.mono fun e W' ⟨he, hg⟩ => ?_
  subst he
  exact ⟨_, rfl, _, _, _, [], _, [], hW', trodAll_mk1 (shut_bool Try.underlying4 _), hstay W' hg, rfl, hg.frame _, fun h => by cases h⟩
theorem over : Rows.termImagesRow.holds Try.pinned (OpenSpec.ofChange Rows.termImagesSpec) :=
  OpenClaim.holds_of_wide 10 Try.f10 rfl rfl rfl rfl rfl rfl rfl ⟨rfl, rfl, rfl, rfl, rfl⟩ rfl rfl rfl rfl rfl (by kernel_rfl) Try.func10 (by kernel_rfl)
    (of_decide_eq_true (by kernel_rfl)) (by unfold Func.isWrapper; first | (rw [if_pos (by decide +kernel)]; kernel_rfl) | (rw [if_neg (by decide +kernel)]; exact ⟨rfl, rfl⟩))
    (fun os started H enc _ => lifted os started H enc)
theorem proved : Rows.TermImagesSaid :=
  over
#print axioms proved
end Go.Proofs.Ytdjbcenfgceejaa.termImages
