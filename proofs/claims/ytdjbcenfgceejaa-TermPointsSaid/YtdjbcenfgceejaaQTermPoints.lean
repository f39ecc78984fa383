/-
  The law TermPoints returns true whatever the input, and the input reads as it did. No conditions.
-/
import Derived.Test.YtdjbcenfgceejaaRows
import Derived.WalkKit
import Derived.ProofKit
import Derived.OpenShut
import Derived.ChangeOld
import Derived.Test.YtdjbcenfgceejaaTB9
set_option linter.unusedSimpArgs false
set_option linter.unusedVariables false
namespace Go.Proofs.Ytdjbcenfgceejaa.termPoints
open Abs Go.ChangeShapes Go.WideShapes Go.ChangeAt Go.RowKit
theorem own : ownKnob Try.prog.godebug = none := by kernel_rfl
theorem laidOut : laidOutB Try.prog = true := by kernel_rfl
abbrev shapes : List PSh := [.rcd shTermL, .cell (.int .i64), .cell (.int .i64), .cell shGuards, .cell shRunes]
theorem data : ∀ xs, IsPs shapes xs → PC Try.prog 12 xs (.bool true) := by
  intro xs h
  obtain ⟨x0, _, rfl, h0, x1, _, rfl, h1, x2, _, rfl, h2, x3, _, rfl, h3, x4, _, rfl, h4, rfl⟩ := h
  obtain ⟨a0, l0, k0⟩ := is_term h0
  obtain ⟨a1, rfl, k1⟩ := h1
  obtain ⟨a2, rfl, k2⟩ := h2
  obtain ⟨a3, l3, m3, k3⟩ := is_guards h3
  obtain ⟨a4, l4, m4, k4⟩ := is_ints h4
  exact pc_weak (law_TermPoints a0 a1 a2 a3 a4 k0 m3 m4 (fun x hx => wf_i32 (k4 x hx))) (leL_cons l0 (leL_cons (AV.le_refl _) (leL_cons (AV.le_refl _) (leL_cons l3 (leL_cons l4 leL_nil)))))
set_option maxRecDepth 100000 in
theorem lifted (os : Os) (started : os.Started) (H : Type) (enc : TypeId × Value → H) :
    ReturnsInHanded {} Try.checked os 12 .any (Rows.termPointsSpec.pre6 enc Try.prog Try.f12 Rows.termPointsRow.domain false) (Rows.termPointsSpec.post enc Try.prog Try.f12 false true false false) := by
  refine returnsInHanded_of_change (C := Try.checked) own started (by kernel_rfl) Try.func12
    (ChangeSpec.witness6 (enc := enc) (C := Try.checked) false ⟨#[], #[.agg #[.int .i64 0, .int .i64 0, .int .i64 0, .int .i64 0, .int .i64 0, .slice none 0 0], .int .i64 0, .int .i64 0, .slice none 0 0, .slice none 0 0], []⟩ 8 (by kernel_rfl) (by kernel_rfl) (by kernel_rfl) (by kernel_rfl)) ?_
  intro W base args ds gs before hval0 hW hcnd _
  have hW' := hW
  obtain ⟨p, q, hA0, hV, rfl, hfz, hnd⟩ := hW
  have hA : DataW.TrodAll enc Try.prog W 0 (fun _ => true) true Try.f12.params.toList args.toList ds p := hA0
  have hcall := law_calls (P := Try.prog) (ps := shapes) (ts := Try.f12.params.toList) (by kernel_rfl) data (fun j t v ht hv => hval0 j t v (by simpa using ht) (by simpa using hv)) hA
  have hlt := DataW.TrodAll.lt hA
  have hstay : ∀ W', Below W.heap.size W W' → DataW.TrodAll enc Try.prog W' 0 (fun b => decide (b < W.heap.size)) true Try.f12.params.toList args.toList ds p := fun W' hb => args_stay laidOut hb (by kernel_rfl) hlt hA
  rw [Try.params12] at hA
  obtain ⟨v0, vs0, d0, ds0, p0, q0, hargs0, hds0, hp0, h0, r0⟩ := trodAll_cons hA
  obtain ⟨v1, vs1, d1, ds1, p1, q1, hargs1, hds1, hp1, h1, r1⟩ := trodAll_cons r0
  obtain ⟨v2, vs2, d2, ds2, p2, q2, hargs2, hds2, hp2, h2, r2⟩ := trodAll_cons r1
  obtain ⟨v3, vs3, d3, ds3, p3, q3, hargs3, hds3, hp3, h3, r3⟩ := trodAll_cons r2
  obtain ⟨v4, vs4, d4, ds4, p4, q4, hargs4, hds4, hp4, h4, r4⟩ := trodAll_cons r3
  obtain ⟨e1, e2, e3⟩ := trodAll_nil r4
  subst e2
  subst hds4
  subst hds3
  subst hds2
  subst hds1
  subst hds0
  obtain ⟨rfl, rfl⟩ := trodVars_none hV
  simp only [List.append_nil] at hW'
  refine hcall.mono fun e W' ⟨he, hg⟩ => ?_
  subst he
  exact ⟨_, rfl, _, _, _, [], _, [], hW', trodAll_mk1 (shut_bool Try.underlying4 _), hstay W' hg, rfl, hg.frame _, fun h => by cases h⟩
theorem over : Rows.termPointsRow.holds Try.pinned (OpenSpec.ofChange Rows.termPointsSpec) :=
  OpenClaim.holds_of_wide 12 Try.f12 rfl rfl rfl rfl rfl rfl rfl ⟨rfl, rfl, rfl, rfl, rfl⟩ rfl rfl rfl rfl rfl (by kernel_rfl) Try.func12 (by kernel_rfl)
    (of_decide_eq_true (by kernel_rfl)) (by unfold Func.isWrapper; first | (rw [if_pos (by decide +kernel)]; kernel_rfl) | (rw [if_neg (by decide +kernel)]; exact ⟨rfl, rfl⟩))
    (fun os started H enc _ => lifted os started H enc)
theorem proved : Rows.TermPointsSaid :=
  over
#print axioms proved
end Go.Proofs.Ytdjbcenfgceejaa.termPoints
