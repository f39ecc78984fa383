/-
  Of a ladder of so many steps, with two epsilon rules each, there are as many ways as doubling says, up to the limit, and then they are refused; each final's words are all that a way may write; for all numbers, without conditions.
-/
import Derived.Test.YtbcjoeadpjfcfaaGreatRows
import Derived.WalkKit
import Derived.ProofKit
import Derived.OpenShut
import Derived.ChangeOld
import Derived.Test.YtbcjoeadpjfcfaaGreatEK8
set_option linter.unusedSimpArgs false
set_option linter.unusedVariables false
namespace Go.Proofs.YtbcjoeadpjfcfaaGreat.epsilonLadder
open Abs Go.ChangeShapes Go.WideShapes Go.ChangeAt Go.RowKit
theorem own:ownKnob Tryz.prog.godebug=none:=by kernel_rfl
theorem laidOut:laidOutB Tryz.prog=true:=by kernel_rfl
abbrev Ua:List PSh:=[.cell (.int .u8)]
theorem data:∀ xs,IsPs Ua xs→PC Tryz.prog 12 xs (.bool true):=by
 intro xs h;obtain⟨x0,_,rfl,h0,rfl⟩:=h;obtain⟨a0,rfl,k0⟩:=h0;exact Jg (LP a0 (wf_u8 k0)) (Bp (AV.le_refl _) E1)
set_option maxRecDepth 100000 in
theorem lifted (os:Os) (started:os.Started) (H:Type) (enc:TypeId × Value→H) :
   ReturnsInHanded {} Tryz.checked os 12 .any (Rows.epsilonLadderSpec.pre6 enc Tryz.prog Tryz.f12 Rows.epsilonLadderRow.domain false) (Rows.epsilonLadderSpec.post enc Tryz.prog Tryz.f12 false true false false):=by
 refine returnsInHanded_of_change (C:=Tryz.checked) own started (by kernel_rfl) Tryz.func12
   (ChangeSpec.witness6 (enc:=enc) (C:=Tryz.checked) false ⟨#[],#[.int .u8 0],[]⟩ 8 (by kernel_rfl) (by kernel_rfl) (by kernel_rfl) (by kernel_rfl)) ?_
 intro W base args ds gs before hval0 hW hcnd _;have hW':=hW;obtain⟨p,q,hA0,hV,rfl,hfz,hnd⟩:=hW;have hA:DataW.TrodAll enc Tryz.prog W 0 (fun _=>true) true Tryz.f12.params.toList args.toList ds p:=hA0;have hcall:=Ss (P:=Tryz.prog) (ps:=Ua) (ts:=Tryz.f12.params.toList) (by kernel_rfl) data (fun j t v ht hv=>hval0 j t v (by simpa using ht) (by simpa using hv)) hA;have hlt:=DataW.TrodAll.lt hA;have hstay:∀ W',Below W.heap.size W W'→DataW.TrodAll enc Tryz.prog W' 0 (fun b=>decide (b<W.heap.size)) true Tryz.f12.params.toList args.toList ds p:=fun W' hb=>Nu laidOut hb (by kernel_rfl) hlt hA;rw[Tryz.params12] at hA;obtain⟨v0,vs0,d0,ds0,p0,q0,hargs0,hds0,hp0,h0,r0⟩:=trodAll_cons hA;obtain⟨e1,e2,e3⟩:=trodAll_nil r0;subst e2;subst hds0;obtain⟨rfl,rfl⟩:=trodVars_none hV;simp only[List.append_nil] at hW';refine hcall.mono fun e W' ⟨he,hg⟩=>?_;subst he;exact⟨_,rfl,_,_,_,[],_,[],hW',trodAll_mk1 (shut_bool Tryz.underlying4 _),hstay W' hg,rfl,hg.frame _,fun h=>by cases h⟩
theorem over:Rows.epsilonLadderRow.holds Tryz.pinned (OpenSpec.ofChange Rows.epsilonLadderSpec) :=
 OpenClaim.holds_of_wide 12 Tryz.f12 rfl rfl rfl rfl rfl rfl rfl ⟨rfl,rfl,rfl,rfl,rfl⟩ rfl rfl rfl rfl rfl (by kernel_rfl) Tryz.func12 (by kernel_rfl)
   (of_decide_eq_true (by kernel_rfl)) (by unfold Func.isWrapper;first|(rw[if_pos (by decide +kernel)];kernel_rfl)|(rw[if_neg (by decide +kernel)];exact⟨rfl,rfl⟩))
   (fun os started H enc _=>lifted os started H enc)
theorem proved:Rows.EpsilonLadderSaid :=
 over
#print axioms proved
end Go.Proofs.YtbcjoeadpjfcfaaGreat.epsilonLadder
