/-
  Freed once more nothing is changed but the order, and what has no epsilon rules has as many ways as states; for every description, without conditions.
-/
import Derived.Test.YtbcjoeadpjfcfaaRows
import Derived.WalkKit
import Derived.ProofKit
import Derived.OpenShut
import Derived.ChangeOld
import Derived.Test.YtbcjoeadpjfcfaaEB7
set_option linter.unusedSimpArgs false
set_option linter.unusedVariables false
namespace Go.Proofs.Ytbcjoeadpjfcfaa.epsilonTwice
open Abs Go.ChangeShapes Go.WideShapes Go.ChangeAt Go.RowKit
theorem own:ownKnob Try.prog.godebug=none:=by kernel_rfl
theorem laidOut:laidOutB Try.prog=true:=by kernel_rfl
abbrev zg8:List PSh:=[.rcd z8g]
theorem data:∀ xs,IsPs zg8 xs→PC Try.prog 3 xs (.bool true):=by
 intro xs h;obtain⟨x0,_,rfl,h0,rfl⟩:=h;obtain⟨a0,l0,k0⟩:=zjr h0;exact Ni (Mi a0) (As l0 D3)
set_option maxRecDepth 100000 in
theorem lifted (os:Os) (started:os.Started) (H:Type) (enc:TypeId × Value→H) :
   ReturnsInHanded {} Try.checked os 3 .any (Rows.epsilonTwiceSpec.pre6 enc Try.prog Try.f3 Rows.epsilonTwiceRow.domain false) (Rows.epsilonTwiceSpec.post enc Try.prog Try.f3 false true false false):=by
 refine returnsInHanded_of_change (C:=Try.checked) own started (by kernel_rfl) Try.func3
   (ChangeSpec.witness6 (enc:=enc) (C:=Try.checked) false ⟨#[],#[.agg #[.int .i64 0,.int .i64 0,.int .i64 0,.int .i64 0,.slice none 0 0,.slice none 0 0]],[]⟩ 8 (by kernel_rfl) (by kernel_rfl) (by kernel_rfl) (by kernel_rfl)) ?_
 intro W base args ds gs before hval0 hW hcnd _;have hW':=hW;obtain⟨p,q,hA0,hV,rfl,hfz,hnd⟩:=hW;have hA:DataW.TrodAll enc Try.prog W 0 (fun _=>true) true Try.f3.params.toList args.toList ds p:=hA0;have hcall:=z7x (P:=Try.prog) (ps:=zg8) (ts:=Try.f3.params.toList) (by kernel_rfl) data (fun j t v ht hv=>hval0 j t v (by simpa using ht) (by simpa using hv)) hA;have hlt:=DataW.TrodAll.lt hA;have hstay:∀ W',Below W.heap.size W W'→DataW.TrodAll enc Try.prog W' 0 (fun b=>decide (b<W.heap.size)) true Try.f3.params.toList args.toList ds p:=fun W' hb=>Uo laidOut hb (by kernel_rfl) hlt hA;rw[Try.params3] at hA;obtain⟨v0,vs0,d0,ds0,p0,q0,hargs0,hds0,hp0,h0,r0⟩:=trodAll_cons hA;obtain⟨e1,e2,e3⟩:=trodAll_nil r0;subst e2;subst hds0;obtain⟨rfl,rfl⟩:=trodVars_none hV;simp only[List.append_nil] at hW';refine hcall.mono fun e W' ⟨he,hg⟩=>?_;subst he;exact⟨_,rfl,_,_,_,[],_,[],hW',trodAll_mk1 (shut_bool Try.underlying4 _),hstay W' hg,rfl,hg.frame _,fun h=>by cases h⟩
theorem over:Rows.epsilonTwiceRow.holds Try.pinned (OpenSpec.ofChange Rows.epsilonTwiceSpec) :=
 OpenClaim.holds_of_wide 3 Try.f3 rfl rfl rfl rfl rfl rfl rfl ⟨rfl,rfl,rfl,rfl,rfl⟩ rfl rfl rfl rfl rfl (by kernel_rfl) Try.func3 (by kernel_rfl)
   (of_decide_eq_true (by kernel_rfl)) (by unfold Func.isWrapper;first|(rw[if_pos (by decide +kernel)];kernel_rfl)|(rw[if_neg (by decide +kernel)];exact⟨rfl,rfl⟩))
   (fun os started H enc _=>lifted os started H enc)
theorem proved:Rows.EpsilonTwiceSaid :=
 over
#print axioms proved
end Go.Proofs.Ytbcjoeadpjfcfaa.epsilonTwice
